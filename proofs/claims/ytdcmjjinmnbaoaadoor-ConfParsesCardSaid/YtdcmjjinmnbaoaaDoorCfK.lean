/- conf.Print's closure: a line. -/
import Derived.Test.YtdcmjjinmnbaoaaDoorCfJ
import Derived.Test.YtdcmjjinmnbaoaaDoorCfD
namespace Go.Proofs.YtdcmjjinmnbaoaaDoor
open Go.RowKit

/-- Numbers behind a word. -/
def numsT : List Int → List UInt8
  | [] => []
  | x :: r => 32 :: textOf x ++ numsT r
theorem numsT_snoc (xs : List Int) (x : Int) : numsT (xs ++ [x]) = numsT xs ++ (32 :: textOf x) := by
  induction xs with
  | nil => simp [numsT]
  | cons y xs ih => rw [List.cons_append, numsT, numsT, ih]; simp
/-- A line: a word, numbers. -/
def lineT (wd : List UInt8) (xs : List Int) : List UInt8 := wd ++ numsT xs ++ [10]
theorem dec_lenK (k : Nat) : ∀ u, u < 10 ^ (k + 1) → (Lib.decDigits u).length ≤ k + 1 := by
  induction k with
  | zero => intro u h; rw [Lib.decDigits, dif_pos (by simpa using h)]; simp
  | succ k ih =>
    intro u h
    rw [Lib.decDigits]
    split
    · simp
    · have := ih (u / 10) (by rw [Nat.pow_succ] at h; omega)
      simp
      omega
theorem text_lenK (n : Int) : (textOf n).length ≤ 10 := by
  unfold textOf
  split
  · simp
  · exact dec_lenK 9 _ (by omega)
theorem numsT_len (xs : List Int) : (numsT xs).length ≤ 11 * xs.length := by
  induction xs with
  | nil => simp [numsT]
  | cons x xs ih => have := text_lenK x; simp [numsT]; omega

/-- Ints that a builder's writes leave alone: they lie in a row of ints. -/
def IntsK (w : World) (p : Option Addr) (xs : List Int) : Prop := IntsL w p xs ∧ ∀ b off, p = some ⟨b, off, none⟩ → ∃ c f, w.heap[b]? = some (.cells c 3 f)
theorem IntsK.keep {base b : Nat} {w w' : World} {p : Option Addr} {xs : List Int} {T : TypeId} {cs : Array Value} {f0 : Nat × Nat} (h : IntsK w p xs) (hb : w.heap[b]? = some (.cells cs T f0)) (hT : T ≠ 3) (hm : KeepB base b w w') : IntsK w' p xs := by
  have hS : ∀ x off, p = some ⟨x, off, none⟩ → ¬ (x = b ∨ (base ≤ x ∧ ∃ c f, w.heap[x]? = some (.cells c 5 f))) := by
    intro x off e
    obtain ⟨c, f, hc⟩ := h.2 x off e
    rintro (rfl | ⟨_, c', f', hc'⟩)
    · rw [hb] at hc; simp at hc; exact hT hc.2.1
    · rw [hc] at hc'; simp at hc'
  refine ⟨h.1.mod hm hS, fun x off e => ?_⟩
  obtain ⟨c, f, hc⟩ := h.2 x off e
  exact ⟨c, f, Mod.heap hm hc (hS x off e)⟩
theorem BldAt.mod {base b : Nat} {l : List UInt8} {w w' : World} (h : BldAt base b l w) (hm : Mod NoB w w') : BldAt base b l w' := by
  rcases h with ⟨h1, v, h2, h3, h4⟩ | ⟨h1, v, h2, h3, h4⟩
  · exact Or.inl ⟨h1, v, hm.heap h2 id, ownsRow_mod h3 hm (fun _ f => f.elim), h4⟩
  · exact Or.inr ⟨h1, v, hm.heap h2 id, ownsRow_mod h3 hm (fun _ f => f.elim), h4⟩
theorem BldAt.block {base b : Nat} {l : List UInt8} {w : World} (h : BldAt base b l w) : ∃ cs, w.heap[b]? = some (.cells cs 66 (0, 0)) := by
  rcases h with ⟨_, v, h, _⟩ | ⟨_, v, h, _⟩
  · exact ⟨_, h⟩
  · exact ⟨_, h⟩

set_option maxRecDepth 100000 in
set_option maxHeartbeats 4000000 in
theorem pline_any (base b : Nat) (l wd : List UInt8) (xs : List Int) (p : Option Addr) (c : Nat) (w : World) (h : BldAt base b l w) (hx : IntsK w p xs) (hxs : xs.length ≤ 100) (hr : ∀ x ∈ xs, 0 ≤ x ∧ x ≤ 1000000000) (hl : l.length ≤ 1000000) (hwl : wd.length ≤ 100) (hbw : base ≤ w.heap.size) (hL : ∀ w', KeepB base b w w' → LaidN w') :
    Calls Tryd.prog 25 #[.string (bs wd), .slice p xs.length c, .pointer (some ⟨b, 0, none⟩)] w fun e w' => e = .returned (.tuple #[]) ∧ BldAt base b (l ++ lineT wd xs) w' ∧ KeepB base b w w' := by
  replace hL := hide hL
  replace hr := hide hr
  have hw0 := hide (bwrite_any base b l wd w h (by omega) hbw)
  have hwr := hide (bwrite_any base b)
  have hby := hide (bbyte_any base b)
  replace hx := hide hx
  replace h := hide h
  go_enter Tryd.func25, Tryd.ntmps25
  go_wp2_with fail
  refine hw0.out.mono ?_
  rintro e w1 ⟨⟨x1, y1, rfl⟩, hb1, hk1⟩
  obtain ⟨cs, hcs⟩ := h.out.block
  replace hx := hide (hx.out.keep hcs (by decide) hk1)
  replace hb1 := hide hb1
  replace hk1 := hide hk1
  clear hcs hw0
  go_wp2_with fail
  have hk1s := hk1.out.size
  go_loopw [11] (fun vi wr => ∃ i : Nat, i ≤ xs.length ∧ vi = .int .i64 i ∧ BldAt base b (l ++ wd ++ numsT (xs.take i)) wr ∧ KeepB base b w1 wr) (fun vi _ => xs.length - (intOf vi).toNat)
  case atStart => exact ⟨0, by omega, rfl, by simpa [numsT] using hb1.out, KeepB.refl _ _ _⟩
  case round =>
    obtain ⟨i, hi, rfl, hbr, hk⟩ := hrel
    have hln := numsT_len (xs.take i)
    have htl : (xs.take i).length = i := by simp; omega
    rw [htl] at hln
    have hll : (l ++ wd ++ numsT (xs.take i)).length ≤ 1010000 := by simp; omega
    have hks := hk.size
    by_cases hlt : i < xs.length
    · obtain ⟨cs1, hcs1⟩ := hb1.out.block
      obtain ⟨bx, ox, hp, _, hcell⟩ := (hx.out.keep hcs1 (by decide) hk).1 i hlt
      have hmem : xs.getD i 0 ∈ xs := by
        have : xs.getD i 0 = xs[i] := by simp [List.getD, hlt]
        rw [this]; exact List.getElem_mem hlt
      obtain ⟨hr0, hr1⟩ := hr.out _ hmem
      have hsn : Hid (numsT (xs.take (i + 1)) = numsT (xs.take i) ++ (32 :: textOf (xs.getD i 0))) := hide (by
        rw [List.take_add_one]
        have : xs[i]? = some (xs.getD i 0) := by simp [List.getD, hlt]
        rw [this]
        exact numsT_snoc _ _)
      have hcon : Hid (l ++ wd ++ numsT (xs.take (i + 1)) = (l ++ wd ++ numsT (xs.take i)) ++ (32 :: textOf (xs.getD i 0))) := hide (by rw [hsn.out]; simp)
      clear hsn
      have htx := text_lenK (xs.getD i 0)
      subst hp
      clear hmem hcs1
      generalize xs.getD i 0 = v at hcell hr0 hr1 hcon htx
      have hT := hide (text_any v (by omega) (by omega) wr (hL.out wr (hk1.out.trans hk)))
      replace hk := hide hk
      have hcat : (⟨#[32]⟩ : ByteArray) ++ bs (textOf v) = bs (32 :: textOf v) := by
        apply ByteArray.ext
        simp
      have hwl2 : (32 :: textOf v).length ≤ 11 := by simp; omega
      generalize textOf v = tv at hT hcat hcon hwl2 htx
      generalize l ++ wd ++ numsT (xs.take i) = L1 at hbr hll hcon
      replace hbr := hide hbr
      go_wp2_with fail
      refine hT.out.mono ?_
      rintro e w2 ⟨rfl, hm2⟩
      have hbr2 := hide (BldAt.mod hbr.out hm2)
      have hk2 := hide (hk.out.trans (KeepB.of_mod hm2))
      have hks2 := hm2.size
      clear hm2 hT
      go_wp2_with fail
      refine (hwr.out L1 (32 :: tv) w2 hbr2.out (by omega) (by omega)).mono ?_
      rintro e w3 ⟨⟨x2, y2, rfl⟩, hb3, hk3⟩
      replace hb3 := hide hb3
      replace hk3 := hide (hk2.out.trans hk3)
      clear hcat
      go_wp2_with fail
      go_roundw
      case rel => exact ⟨i + 1, by omega, by go_num, by rw [hcon.out]; exact hb3.out, hk3.out⟩
      case measure => simp [intOf]; omega
    · obtain rfl : i = xs.length := by omega
      rw [List.take_length] at hbr hll
      replace hbr := hide hbr
      replace hk := hide hk
      go_wp2_with fail
      have hb10 := hby.out (l ++ wd ++ numsT xs) 10 wr hbr.out (by omega) (by omega)
      have h10 : ((UInt8.toNat 10 : Nat) : Int) = 10 := rfl
      rw [h10] at hb10
      refine hb10.mono ?_
      rintro e w3 ⟨⟨x2, rfl⟩, hb3, hk3⟩
      have hfin : l ++ wd ++ numsT xs ++ [10] = l ++ lineT wd xs := by simp [lineT]
      rw [hfin] at hb3
      replace hb3 := hide hb3
      replace hk3 := hide ((hk1.out.trans hk.out).trans hk3)
      clear hfin hb10
      go_wp2
      go_end0
      exact ⟨rfl, hb3.out, hk3.out⟩
end Go.Proofs.YtdcmjjinmnbaoaaDoor
