/- strings.Builder: what a write does, and what it leaves. (The shelf's contracts of the writing methods do not fit this dump's text of copyCheck.) conf.Print's closure: a line. conf.Print. conf.Print: the walk. conf.line: what it answers, and what it works on. What a config's text comes to: plain Lean. conf.line, walked. conf.line, walked: a known word with as many numbers as it takes. conf.line, walked: its loop. conf.Parse, walked. conf.Parse, walked: texts that are too long, or have a wrong line. conf.Parse, walked. -/
import Derived.Test.YtdcmjjinmnbaoaaGreatDoorMB
import Derived.Shelf.Strings.Builder1
import Derived.Test.YtdcmjjinmnbaoaaGreatDoorMC
import Derived.Test.YtdcmjjinmnbaoaaGreatDoorMA
namespace Go.Proofs.YtdcmjjinmnbaoaaGreatDoor
open Go.RowKit Go.Shelf

/-- A builder of the call's own, in block b; its row lies from base on. -/
def BldAt (base b : Nat) (l : List UInt8) (w : World) : Prop := Lib.IsBuilder 41 5 base b (Lib.byteCells l) w

/-- A write to a builder: its own block, and rows of bytes, may have turned; nothing else. -/
def KeepB (base b : Nat) (w w' : World) : Prop := Mod (fun x => x = b ∨ (base ≤ x ∧ ∃ c f, w.heap[x]? = some (.cells c 5 f))) w w'
theorem KeepB.refl (base b : Nat) (w : World) : KeepB base b w w := Mod.refl _ _
theorem KeepB.trans {base b : Nat} {w w1 w2 : World} (h : KeepB base b w w1) (k : KeepB base b w1 w2) : KeepB base b w w2 :=
  ⟨k.os.trans h.os, k.tape.trans h.tape, k.output.trans h.output, Nat.le_trans h.size k.size, fun x hx hn => by
    have e1 := h.block x hx hn
    refine (k.block x (Nat.lt_of_lt_of_le hx h.size) ?_).trans e1
    rintro (rfl | ⟨hbx, c, f, hc⟩)
    · exact hn (Or.inl rfl)
    · rw [e1] at hc; exact hn (Or.inr ⟨hbx, c, f, hc⟩)⟩
theorem KeepB.of_mod {base b : Nat} {w w' : World} (h : Mod NoB w w') : KeepB base b w w' := h.mono fun _ _ f => f.elim
theorem KeepB.heap {base b : Nat} {w w' : World} (h : KeepB base b w w') {x : Nat} {c : Array Value} {t : TypeId} {f : Nat × Nat} (hx : w.heap[x]? = some (.cells c t f)) (hb : x ≠ b) (ht : t ≠ 5) : w'.heap[x]? = some (.cells c t f) :=
  Mod.heap h hx (by
    rintro (e | ⟨_, c', f', hc⟩)
    · exact hb e
    · rw [hx] at hc; simp at hc; exact ht hc.2.1)
theorem KeepB.set {base b : Nat} {w w' : World} (h : KeepB base b w w') (o : Nat) (v : Value) : KeepB base b w (w'.setCell ⟨b, o, none⟩ v) := Mod.setCell h (p := ⟨b, o, none⟩) (Or.inl (Or.inl rfl)) _
theorem KeepB.grown {b base : Nat} {w w2 : World} {v : Value} {n : Nat} {xs : List Value} (h : w.ownsRow base 5 1 v n xs) (hg : w.grownBy w2 v.ownBlock) : KeepB base b w w2 :=
  Mod.grownIn (Mod.refl _ _) hg (fun k hk => by
    rcases h.2 with ⟨h1, _⟩ | ⟨g, cap, cur, h1, _, hgc, _⟩
    · subst h1; simp [Value.ownBlock] at hk
    · have hge := own_ge h k hk
      subst h1; simp [Value.ownBlock] at hk; subst hk; exact Or.inr ⟨hge, _, _, hgc⟩)
theorem KeepB.low {base b : Nat} {w w' : World} (h : KeepB base b w w') (hb : base ≤ b) {x o : Nat} {v : Value} (hx : x < base) (hc : w.cell? ⟨x, o, none⟩ = some v) : w'.cell? ⟨x, o, none⟩ = some v := Mod.cellAt h (by rintro (e | ⟨e, _⟩) <;> omega) hc
theorem infoBld : (Tryz.prog.info? 41).map (·.size) = some 2 := by kernel_rfl
theorem infoByte : (Tryz.prog.info? 5).map (fun i => (i.zero, i.size, i.bytes)) = some (some (.int .u8 0), 1, 1) := by kernel_rfl
theorem liesBld : liesAt Tryz.prog Tryz.prog.depth 41 (2 / Tryz.prog.cellsOf 41) 0 41 1 = true := by kernel_rfl

set_option maxRecDepth 100000 in
set_option maxHeartbeats 1000000 in
theorem bcheck_used (b : Nat) (w : World) (h0 : w.cell? ⟨b, 0, none⟩ = some (.pointer (some ⟨b, 0, none⟩))) :
    Calls Tryz.prog 26 #[.pointer (some ⟨b, 0, none⟩)] w fun e w' => e = .returned (.tuple #[]) ∧ w' = w := by
  obtain ⟨j, hj, _⟩ := Option.map_eq_some_iff.1 infoBld
  go_enter Tryz.func26, Tryz.ntmps26
  go_wp2
  rw [Lib.run_neq_ptr_same w _ Tryz.underlying38 hj]
  go_wp2
  go_end0
  exact ⟨rfl, rfl⟩

set_option maxRecDepth 100000 in
set_option maxHeartbeats 1000000 in
theorem bcheck_fresh (b : Nat) (w : World) (h0 : w.cell? ⟨b, 0, none⟩ = some (.pointer none)) (hsh : w.shape? b = some (41, 2)) (hfz : w.frozen? ⟨b, 0, none⟩ = false) :
    Calls Tryz.prog 26 #[.pointer (some ⟨b, 0, none⟩)] w fun e w' => e = .returned (.tuple #[]) ∧ w' = w.setCell ⟨b, 0, none⟩ (.pointer (some ⟨b, 0, none⟩)) := by
  obtain ⟨j, hj, hjs⟩ := Option.map_eq_some_iff.1 infoBld
  go_enter Tryz.func26, Tryz.ntmps26
  go_wp2
  rw [Lib.run_to_unsafe w ⟨b, 0, none⟩ Tryz.underlying38 Tryz.underlying86 hj (by rw [hjs]; decide) hsh (Nat.zero_lt_succ 1)]
  simp only [Result.andThen]
  rw [Oper.upon_value]
  go_wp2
  rw [run_callFunc_extern Tryz.func42 (by kernel_rfl) (by kernel_rfl) (by kernel_rfl) (e := Extern.AbiNoEscape.same) (by kernel_rfl)]
  rw [Lib.run_noEscape]
  simp only [Result.andThen]
  rw [Oper.upon_value]
  go_wp2
  rw [Lib.run_from_unsafe w ⟨b, 0, none⟩ Tryz.underlying86 Tryz.underlying38 hj hsh liesBld]
  simp only [Result.andThen]
  rw [Oper.upon_value]
  go_wp2
  go_end0
  exact ⟨rfl, rfl⟩

/-- Behind copyCheck the builder is used; only its own block has turned. -/
theorem bcheck_any (base b : Nat) (l : List UInt8) (w : World) (h : BldAt base b l w) :
    Calls Tryz.prog 26 #[.pointer (some ⟨b, 0, none⟩)] w fun e w' => e = .returned (.tuple #[]) ∧ Lib.BuilderAt 41 5 base b (.pointer (some ⟨b, 0, none⟩)) (Lib.byteCells l) w' ∧ KeepB base b w w' := by
  rcases h with h | h
  · refine (bcheck_fresh b w h.cell0 h.shape h.frozen0).mono ?_
    rintro e w' ⟨rfl, rfl⟩
    exact ⟨rfl, h.used _, (KeepB.refl _ _ _).set _ _⟩
  · refine (bcheck_used b w h.cell0).mono ?_
    rintro e w' ⟨rfl, rfl⟩
    exact ⟨rfl, h, KeepB.refl _ _ _⟩

theorem str_bytes (l : List UInt8) : Lib.strCells (bs l) = Lib.byteCells l := by
  unfold Lib.strCells Lib.byteCells
  rfl

set_option maxRecDepth 100000 in
set_option maxHeartbeats 2000000 in
theorem bwrite_any (base b : Nat) (l s : List UInt8) (w : World) (h : BldAt base b l w) (hlen : l.length + s.length ≤ 100000000) (hbw : base ≤ w.heap.size) :
    Calls Tryz.prog 13 #[.pointer (some ⟨b, 0, none⟩), .string (bs s)] w fun e w' => (∃ x y, e = .returned (.tuple #[x, y])) ∧ BldAt base b (l ++ s) w' ∧ KeepB base b w w' := by
  obtain ⟨i0, hi, hz0, hz1, hz2⟩ := info_parts infoByte
  have hbl : (Lib.byteCells l).length = l.length := by simp [Lib.byteCells]
  have hck := hide (bcheck_any base b l w h)
  clear h
  go_enter Tryz.func13, Tryz.ntmps13
  go_wp2_with fail
  refine hck.out.mono ?_
  rintro e w1 ⟨rfl, ⟨hB, v, hbk, hown, hne⟩, hm1⟩
  have c0 := cell_of_block hbk 0 (v := .pointer (some ⟨b, 0, none⟩)) rfl
  have c1 := cell_of_block hbk 1 (v := v) rfl
  have hss : (bs s).size = s.length := rfl
  go_wp2_with (at_builtin; refine Lib.wpList_append_own_string _ rfl _ _ 39 9 rfl base 5 i0 Tryz.underlying39 Tryz.underlying9 hi hz0 hz1 hz2 _ _ _ rfl hown (bs s) rfl ?c3 ?c4 ?c5 ?_)
  case c3 => rw [hbl, hss]; unfold maxLen; omega
  case c4 => rw [hbl, hss]; omega
  case c5 => have := hm1.size; omega
  intro v' w2 hown' hgrow _
  have hlt := lt_of_block hbk
  have hb2 : w2.heap[b]? = some (.cells #[.pointer (some ⟨b, 0, none⟩), v] 41 (0, 0)) := by
    rw [hgrow.block b hlt (fun e => hne e.symm)]
    exact hbk
  have d0 := cell_of_block hb2 0 (v := .pointer (some ⟨b, 0, none⟩)) rfl
  have d1 := cell_of_block hb2 1 (v := v) rfl
  have f1 := frozen_of_block hb2 1
  obtain ⟨ao, n', cap, rfl⟩ := own_slice hown'
  have hfin : KeepB base b w (w2.setCell ⟨b, 1, none⟩ (.slice ao n' cap)) := (hm1.trans (KeepB.grown hown hgrow)).set _ _
  have hcells : Lib.byteCells (l ++ s) = Lib.byteCells l ++ Lib.strCells (bs s) := by rw [str_bytes]; simp [Lib.byteCells]
  have hput := hide (Lib.BuilderAt.put (T := 41) (e := 5) hB hb2 (bs' := Lib.byteCells (l ++ s)) (by rw [hcells, List.length_append, Lib.strCells_length, hbl]; exact hown') (by decide))
  replace hfin := hide hfin
  clear hm1 hgrow hown' hown hne hb2 hbk hck hcells
  go_wp2
  go_ret2
  exact ⟨⟨_, _, rfl⟩, Or.inr hput.out, hfin.out⟩

set_option maxRecDepth 100000 in
set_option maxHeartbeats 2000000 in
theorem bbyte_any (base b : Nat) (l : List UInt8) (c : UInt8) (w : World) (h : BldAt base b l w) (hlen : l.length + 1 ≤ 100000000) (hbw : base ≤ w.heap.size) :
    Calls Tryz.prog 15 #[.pointer (some ⟨b, 0, none⟩), .int .u8 (c.toNat : Nat)] w fun e w' => (∃ x, e = .returned x) ∧ BldAt base b (l ++ [c]) w' ∧ KeepB base b w w' := by
  obtain ⟨i0, hi, hz0, hz1, hz2⟩ := info_parts infoByte
  have hbl : (Lib.byteCells l).length = l.length := by simp [Lib.byteCells]
  have hck := hide (bcheck_any base b l w h)
  clear h
  go_enter Tryz.func15, Tryz.ntmps15
  go_wp2_with fail
  refine hck.out.mono ?_
  rintro e w1 ⟨rfl, ⟨hB, v, hbk, hown, hne⟩, hm1⟩
  have c0 := cell_of_block hbk 0 (v := .pointer (some ⟨b, 0, none⟩)) rfl
  have c1 := cell_of_block hbk 1 (v := v) rfl
  go_wp2_with (at_builtin; refine wpList_append_own _ rfl _ _ 39 rfl base 5 i0 (.int .u8 0) 1 1 Tryz.underlying39 hi hz0 hz1 hz2 rfl (by decide) _ _ _ rfl (hown.alloc _) ⟨w1.heap.size, 0, none⟩ 1 1 [.int .u8 (c.toNat : Nat)] rfl rfl ?c1 ?c2 ?c3 ?c4 ?c5 ?_)
  case c1 => exact cell_one_new _ _ _
  case c2 => intro u hu; simp at hu; subst hu; rfl
  case c3 => rw [hbl]; unfold maxLen; omega
  case c4 => rw [hbl]; omega
  case c5 => have := hm1.size; simp; omega
  intro v' w2 hown' hgrow _
  have hlt := lt_of_block hbk
  have hb2 : w2.heap[b]? = some (.cells #[.pointer (some ⟨b, 0, none⟩), v] 41 (0, 0)) := by
    rw [hgrow.block b (by simp; omega) (fun e => hne e.symm), heap_alloc_old hlt]
    exact hbk
  have d0 := cell_of_block hb2 0 (v := .pointer (some ⟨b, 0, none⟩)) rfl
  have d1 := cell_of_block hb2 1 (v := v) rfl
  have f1 := frozen_of_block hb2 1
  obtain ⟨ao, n', cap, rfl⟩ := own_slice hown'
  have hfin : KeepB base b w (w2.setCell ⟨b, 1, none⟩ (.slice ao n' cap)) := ((hm1.trans (KeepB.of_mod ((Mod.refl _ _).alloc _))).trans (KeepB.grown (hown.alloc _) hgrow)).set _ _
  have hcells : Lib.byteCells (l ++ [c]) = Lib.byteCells l ++ [.int .u8 (c.toNat : Nat)] := by simp [Lib.byteCells]
  have hput := hide (Lib.BuilderAt.put (T := 41) (e := 5) hB hb2 (bs' := Lib.byteCells (l ++ [c])) (by rw [hcells, List.length_append, hbl]; exact hown') (by decide))
  replace hfin := hide hfin
  clear hm1 hgrow hown' hown hne hb2 hbk hck hcells
  go_wp2
  go_ret
  exact ⟨⟨_, rfl⟩, Or.inr hput.out, hfin.out⟩
end Go.Proofs.YtdcmjjinmnbaoaaGreatDoor
namespace Go.Proofs.YtdcmjjinmnbaoaaGreatDoor
open Go.RowKit

/-- Numbers behind a word. -/
def numsT : List Int → List UInt8
  | [] => []
  | x :: r => 32 :: textOf x ++ numsT r
theorem numsT_snoc (xs : List Int) (x : Int) : numsT (xs ++ [x]) = numsT xs ++ (32 :: textOf x) := by
  induction xs with
  | nil => simp [numsT]
  | cons y xs ih => rw [List.cons_append, numsT, numsT, ih]; simp
/-- A line: a word, numbers. -/
def lineT (wd : List UInt8) (xs : List Int) : List UInt8 := wd ++ numsT xs ++ [10]
theorem dec_lenK (k : Nat) : ∀ u, u < 10 ^ (k + 1) → (Lib.decDigits u).length ≤ k + 1 := by
  induction k with
  | zero => intro u h; rw [Lib.decDigits, dif_pos (by simpa using h)]; simp
  | succ k ih =>
    intro u h
    rw [Lib.decDigits]
    split
    · simp
    · have := ih (u / 10) (by rw [Nat.pow_succ] at h; omega)
      simp
      omega
theorem text_lenK (n : Int) : (textOf n).length ≤ 10 := by
  unfold textOf
  split
  · simp
  · exact dec_lenK 9 _ (by omega)
theorem numsT_len (xs : List Int) : (numsT xs).length ≤ 11 * xs.length := by
  induction xs with
  | nil => simp [numsT]
  | cons x xs ih => have := text_lenK x; simp [numsT]; omega

/-- Ints that a builder's writes leave alone: they lie in a row of ints. -/
def IntsK (w : World) (p : Option Addr) (xs : List Int) : Prop := IntsL w p xs ∧ ∀ b off, p = some ⟨b, off, none⟩ → ∃ c f, w.heap[b]? = some (.cells c 3 f)
theorem IntsK.keep {base b : Nat} {w w' : World} {p : Option Addr} {xs : List Int} {T : TypeId} {cs : Array Value} {f0 : Nat × Nat} (h : IntsK w p xs) (hb : w.heap[b]? = some (.cells cs T f0)) (hT : T ≠ 3) (hm : KeepB base b w w') : IntsK w' p xs := by
  have hS : ∀ x off, p = some ⟨x, off, none⟩ → ¬ (x = b ∨ (base ≤ x ∧ ∃ c f, w.heap[x]? = some (.cells c 5 f))) := by
    intro x off e
    obtain ⟨c, f, hc⟩ := h.2 x off e
    rintro (rfl | ⟨_, c', f', hc'⟩)
    · rw [hb] at hc; simp at hc; exact hT hc.2.1
    · rw [hc] at hc'; simp at hc'
  refine ⟨h.1.mod hm hS, fun x off e => ?_⟩
  obtain ⟨c, f, hc⟩ := h.2 x off e
  exact ⟨c, f, Mod.heap hm hc (hS x off e)⟩
theorem BldAt.mod {base b : Nat} {l : List UInt8} {w w' : World} (h : BldAt base b l w) (hm : Mod NoB w w') : BldAt base b l w' := by
  rcases h with ⟨h1, v, h2, h3, h4⟩ | ⟨h1, v, h2, h3, h4⟩
  · exact Or.inl ⟨h1, v, hm.heap h2 id, ownsRow_mod h3 hm (fun _ f => f.elim), h4⟩
  · exact Or.inr ⟨h1, v, hm.heap h2 id, ownsRow_mod h3 hm (fun _ f => f.elim), h4⟩
theorem BldAt.block {base b : Nat} {l : List UInt8} {w : World} (h : BldAt base b l w) : ∃ cs, w.heap[b]? = some (.cells cs 41 (0, 0)) := by
  rcases h with ⟨_, v, h, _⟩ | ⟨_, v, h, _⟩
  · exact ⟨_, h⟩
  · exact ⟨_, h⟩

set_option maxRecDepth 100000 in
set_option maxHeartbeats 4000000 in
theorem pline_any (base b : Nat) (l wd : List UInt8) (xs : List Int) (p : Option Addr) (c : Nat) (w : World) (h : BldAt base b l w) (hx : IntsK w p xs) (hxs : xs.length ≤ 100) (hr : ∀ x ∈ xs, 0 ≤ x ∧ x ≤ 1000000000) (hl : l.length ≤ 1000000) (hwl : wd.length ≤ 100) (hbw : base ≤ w.heap.size) (hL : ∀ w', KeepB base b w w' → LaidN w') :
    Calls Tryz.prog 12 #[.string (bs wd), .slice p xs.length c, .pointer (some ⟨b, 0, none⟩)] w fun e w' => e = .returned (.tuple #[]) ∧ BldAt base b (l ++ lineT wd xs) w' ∧ KeepB base b w w' := by
  replace hL := hide hL
  replace hr := hide hr
  have hw0 := hide (bwrite_any base b l wd w h (by omega) hbw)
  have hwr := hide (bwrite_any base b)
  have hby := hide (bbyte_any base b)
  replace hx := hide hx
  replace h := hide h
  go_enter Tryz.func12, Tryz.ntmps12
  go_wp2_with fail
  refine hw0.out.mono ?_
  rintro e w1 ⟨⟨x1, y1, rfl⟩, hb1, hk1⟩
  obtain ⟨cs, hcs⟩ := h.out.block
  replace hx := hide (hx.out.keep hcs (by decide) hk1)
  replace hb1 := hide hb1
  replace hk1 := hide hk1
  clear hcs hw0
  go_wp2_with fail
  have hk1s := hk1.out.size
  go_loopw [11] (fun vi wr => ∃ i : Nat, i ≤ xs.length ∧ vi = .int .i64 i ∧ BldAt base b (l ++ wd ++ numsT (xs.take i)) wr ∧ KeepB base b w1 wr) (fun vi _ => xs.length - (intOf vi).toNat)
  case atStart => exact ⟨0, by omega, rfl, by simpa [numsT] using hb1.out, KeepB.refl _ _ _⟩
  case round =>
    obtain ⟨i, hi, rfl, hbr, hk⟩ := hrel
    have hln := numsT_len (xs.take i)
    have htl : (xs.take i).length = i := by simp; omega
    rw [htl] at hln
    have hll : (l ++ wd ++ numsT (xs.take i)).length ≤ 1010000 := by simp; omega
    have hks := hk.size
    by_cases hlt : i < xs.length
    · obtain ⟨cs1, hcs1⟩ := hb1.out.block
      obtain ⟨bx, ox, hp, _, hcell⟩ := (hx.out.keep hcs1 (by decide) hk).1 i hlt
      have hmem : xs.getD i 0 ∈ xs := by
        have : xs.getD i 0 = xs[i] := by simp [List.getD, hlt]
        rw [this]; exact List.getElem_mem hlt
      obtain ⟨hr0, hr1⟩ := hr.out _ hmem
      have hsn : Hid (numsT (xs.take (i + 1)) = numsT (xs.take i) ++ (32 :: textOf (xs.getD i 0))) := hide (by
        rw [List.take_add_one]
        have : xs[i]? = some (xs.getD i 0) := by simp [List.getD, hlt]
        rw [this]
        exact numsT_snoc _ _)
      have hcon : Hid (l ++ wd ++ numsT (xs.take (i + 1)) = (l ++ wd ++ numsT (xs.take i)) ++ (32 :: textOf (xs.getD i 0))) := hide (by rw [hsn.out]; simp)
      clear hsn
      have htx := text_lenK (xs.getD i 0)
      subst hp
      clear hmem hcs1
      generalize xs.getD i 0 = v at hcell hr0 hr1 hcon htx
      have hT := hide (text_any v (by omega) (by omega) wr (hL.out wr (hk1.out.trans hk)))
      replace hk := hide hk
      have hcat : (⟨#[32]⟩ : ByteArray) ++ bs (textOf v) = bs (32 :: textOf v) := by
        apply ByteArray.ext
        simp
      have hwl2 : (32 :: textOf v).length ≤ 11 := by simp; omega
      generalize textOf v = tv at hT hcat hcon hwl2 htx
      generalize l ++ wd ++ numsT (xs.take i) = L1 at hbr hll hcon
      replace hbr := hide hbr
      go_wp2_with fail
      refine hT.out.mono ?_
      rintro e w2 ⟨rfl, hm2⟩
      have hbr2 := hide (BldAt.mod hbr.out hm2)
      have hk2 := hide (hk.out.trans (KeepB.of_mod hm2))
      have hks2 := hm2.size
      clear hm2 hT
      go_wp2_with fail
      refine (hwr.out L1 (32 :: tv) w2 hbr2.out (by omega) (by omega)).mono ?_
      rintro e w3 ⟨⟨x2, y2, rfl⟩, hb3, hk3⟩
      replace hb3 := hide hb3
      replace hk3 := hide (hk2.out.trans hk3)
      clear hcat
      go_wp2_with fail
      go_roundw
      case rel => exact ⟨i + 1, by omega, by go_num, by rw [hcon.out]; exact hb3.out, hk3.out⟩
      case measure => simp [intOf]; omega
    · obtain rfl : i = xs.length := by omega
      rw [List.take_length] at hbr hll
      replace hbr := hide hbr
      replace hk := hide hk
      go_wp2_with fail
      have hb10 := hby.out (l ++ wd ++ numsT xs) 10 wr hbr.out (by omega) (by omega)
      have h10 : ((UInt8.toNat 10 : Nat) : Int) = 10 := rfl
      rw [h10] at hb10
      refine hb10.mono ?_
      rintro e w3 ⟨⟨x2, rfl⟩, hb3, hk3⟩
      have hfin : l ++ wd ++ numsT xs ++ [10] = l ++ lineT wd xs := by simp [lineT]
      rw [hfin] at hb3
      replace hb3 := hide hb3
      replace hk3 := hide ((hk1.out.trans hk.out).trans hk3)
      clear hfin hb10
      go_wp2
      go_end0
      exact ⟨rfl, hb3.out, hk3.out⟩
end Go.Proofs.YtdcmjjinmnbaoaaGreatDoor
namespace Go.Proofs.YtdcmjjinmnbaoaaGreatDoor
open Go.RowKit

/-- The servers' lines. -/
def srvT : List Int → List UInt8
  | [] => []
  | x :: r => lineT [115, 101, 114, 118, 101, 114] [x] ++ srvT r
theorem srvT_snoc (xs : List Int) (x : Int) : srvT (xs ++ [x]) = srvT xs ++ lineT [115, 101, 114, 118, 101, 114] [x] := by
  induction xs with
  | nil => simp [srvT]
  | cons y xs ih => rw [List.cons_append, srvT, srvT, ih]; simp
/-- A config's text. -/
def printT (xs : List Int) (q l m d s : Int) : List UInt8 :=
  srvT xs ++ lineT [113, 117, 111, 114, 117, 109] [q] ++ lineT [112, 111, 108, 108] [l, m] ++ lineT [100, 101, 108, 97, 121] [d] ++ lineT [115, 108, 101, 119] [s]
theorem lineT_len (wd : List UInt8) (xs : List Int) : (lineT wd xs).length ≤ wd.length + 11 * xs.length + 1 := by
  have := numsT_len xs
  simp [lineT]; omega
theorem srvT_len (xs : List Int) : (srvT xs).length ≤ 18 * xs.length := by
  induction xs with
  | nil => simp [srvT]
  | cons x xs ih => have := lineT_len [115, 101, 114, 118, 101, 114] [x]; simp [srvT] at this ⊢; omega

theorem srvErr_pre {xs : List Int} : ∀ {n : Nat}, srvErr xs n = 0 → ∀ k, k < n → 1 ≤ xs.getD k 0 ∧ xs.getD k 0 ≤ 65535 ∧ inI (xs.take k) (xs.getD k 0) = false := by
  intro n
  induction n with
  | zero => intro _ k hk; omega
  | succ n ih =>
    intro h k hk
    by_cases h0 : srvErr xs n = 0
    · by_cases hkn : k < n
      · exact ih h0 k hkn
      · obtain rfl : k = n := by omega
        cases hb : inB3 (xs.getD k 0) 1 65535 with
        | false => rw [srv_low h0 hb] at h; simp at h
        | true =>
          cases hi : inI (xs.take k) (xs.getD k 0) with
          | true => rw [srv_twice h0 hb hi] at h; simp at h
          | false => exact ⟨(inB3_true hb).1, (inB3_true hb).2, rfl⟩
    · rw [srvErr, if_pos h0] at h
      exact absurd h h0
/-- What a checked config is. -/
structure Fine (xs : List Int) (q l m d s : Int) : Prop where
  some_ : 1 ≤ xs.length
  few : xs.length ≤ 16
  srv : srvErr xs xs.length = 0
  num : numErr xs.length q l m d s = 0
theorem check_fine {xs : List Int} {q l m d s : Int} (h : checkR xs q l m d s = 0) : Fine xs q l m d s := by
  unfold checkR at h
  split at h
  · simp at h
  · split at h
    · simp at h
    · split at h
      · rename_i h3; exact absurd h h3
      · rename_i h1 h2 h3
        exact ⟨by omega, by omega, by simpa using h3, h⟩
theorem fine_nums {xs : List Int} {q l m d s : Int} (h : Fine xs q l m d s) : (4 ≤ l ∧ l ≤ 1024) ∧ (l ≤ m ∧ m ≤ 1024) ∧ (1 ≤ q ∧ q ≤ xs.length) ∧ (1 ≤ d ∧ d ≤ 1000 * l - 2000) ∧ (1 ≤ s ∧ s ≤ 500) := by
  have := h.num
  unfold numErr at this
  split at this
  · rename_i hh
    simp only [Bool.and_eq_true] at hh
    obtain ⟨⟨⟨⟨a, b⟩, c⟩, e⟩, f⟩ := hh
    exact ⟨inB3_true a, inB3_true b, inB3_true c, inB3_true e, inB3_true f⟩
  · simp at this

/-- Behind an alloc of the builder, what is kept of it keeps all that was. -/
theorem KeepB.old {w w' : World} {o : Obj} (h : KeepB w.heap.size w.heap.size (w.alloc o) w') : Mod NoB w w' :=
  ⟨h.os, h.tape, h.output, Nat.le_trans ((Mod.refl NoB w).alloc o).size h.size, fun x hx _ => by
    have := h.block x (Nat.lt_of_lt_of_le hx ((Mod.refl NoB w).alloc o).size) (by rintro (e | ⟨e, _⟩) <;> omega)
    rw [this, heap_alloc_old hx]⟩
theorem ints1 (w : World) (a : Int) : IntsK (w.alloc (.cells #[.int .i64 a] 3)) (some ⟨w.heap.size, 0, none⟩) [a] := by
  refine ⟨fun j hj => ?_, fun b off e => ?_⟩
  · obtain rfl : j = 0 := by simp at hj; omega
    exact ⟨_, _, rfl, lt_of_block (heap_alloc_new w _), cell_of_block (heap_alloc_new w _) 0 rfl⟩
  · simp at e; obtain ⟨rfl, rfl⟩ := e; exact ⟨_, _, heap_alloc_new w _⟩
theorem ints2 (w : World) (a b : Int) : IntsK (w.alloc (.cells #[.int .i64 a, .int .i64 b] 3)) (some ⟨w.heap.size, 0, none⟩) [a, b] := by
  refine ⟨fun j hj => ?_, fun b off e => ?_⟩
  · have : j = 0 ∨ j = 1 := by simp at hj; omega
    rcases this with rfl | rfl
    · exact ⟨_, _, rfl, lt_of_block (heap_alloc_new w _), cell_of_block (heap_alloc_new w _) 0 rfl⟩
    · exact ⟨_, _, rfl, lt_of_block (heap_alloc_new w _), cell_of_block (heap_alloc_new w _) 1 rfl⟩
  · simp at e; obtain ⟨rfl, rfl⟩ := e; exact ⟨_, _, heap_alloc_new w _⟩

/-- One line, behind the row of its numbers. -/
theorem pline1 (w1 : World) (hL : LaidN w1) (o : Obj) (l wd : List UInt8) (a : Int) (w : World) (hk : KeepB w1.heap.size w1.heap.size (w1.alloc o) w) (h : BldAt w1.heap.size w1.heap.size l w) (h0 : 0 ≤ a) (h1 : a ≤ 1000000000) (hl : l.length ≤ 1000000) (hwl : wd.length ≤ 100) :
    Calls Tryz.prog 12 #[.string (bs wd), .slice (some ⟨w.heap.size, 0, none⟩) 1 1, .pointer (some ⟨w1.heap.size, 0, none⟩)] (w.alloc (.cells #[.int .i64 a] 3)) fun e w' => e = .returned (.tuple #[]) ∧ BldAt w1.heap.size w1.heap.size (l ++ lineT wd [a]) w' ∧ KeepB w1.heap.size w1.heap.size (w1.alloc o) w' := by
  have hk2 := hk.trans (KeepB.of_mod ((Mod.refl NoB w).alloc (.cells #[.int .i64 a] 3)))
  refine (pline_any w1.heap.size w1.heap.size l wd [a] (some ⟨w.heap.size, 0, none⟩) 1 _ (h.mod ((Mod.refl NoB w).alloc _)) (ints1 w a) (by simp) (by simp; omega) hl hwl (Nat.le_trans hk2.old.size (Nat.le_refl _)) (fun w' hw => hL.mod (hk2.trans hw).old)).mono ?_
  rintro e w' ⟨rfl, h1, h2⟩
  exact ⟨rfl, h1, hk2.trans h2⟩
theorem pline2 (w1 : World) (hL : LaidN w1) (o : Obj) (l wd : List UInt8) (a b : Int) (w : World) (hk : KeepB w1.heap.size w1.heap.size (w1.alloc o) w) (h : BldAt w1.heap.size w1.heap.size l w) (h0 : 0 ≤ a ∧ 0 ≤ b) (h1 : a ≤ 1000000000 ∧ b ≤ 1000000000) (hl : l.length ≤ 1000000) (hwl : wd.length ≤ 100) :
    Calls Tryz.prog 12 #[.string (bs wd), .slice (some ⟨w.heap.size, 0, none⟩) 2 2, .pointer (some ⟨w1.heap.size, 0, none⟩)] (w.alloc (.cells #[.int .i64 a, .int .i64 b] 3)) fun e w' => e = .returned (.tuple #[]) ∧ BldAt w1.heap.size w1.heap.size (l ++ lineT wd [a, b]) w' ∧ KeepB w1.heap.size w1.heap.size (w1.alloc o) w' := by
  have hk2 := hk.trans (KeepB.of_mod ((Mod.refl NoB w).alloc (.cells #[.int .i64 a, .int .i64 b] 3)))
  refine (pline_any w1.heap.size w1.heap.size l wd [a, b] (some ⟨w.heap.size, 0, none⟩) 2 _ (h.mod ((Mod.refl NoB w).alloc _)) (ints2 w a b) (by simp) (by simp; omega) hl hwl (Nat.le_trans hk2.old.size (Nat.le_refl _)) (fun w' hw => hL.mod (hk2.trans hw).old)).mono ?_
  rintro e w' ⟨rfl, h1, h2⟩
  exact ⟨rfl, h1, hk2.trans h2⟩
end Go.Proofs.YtdcmjjinmnbaoaaGreatDoor
namespace Go.Proofs.YtdcmjjinmnbaoaaGreatDoor
open Go.RowKit

/-- What Print answers. -/
def PrintOut (xs : List Int) (q l m d s : Int) (e : Ending) : Prop :=
  e = .returned (.tuple #[.string (bs (if checkR xs q l m d s = 0 then printT xs q l m d s else [])), .int .i64 (checkR xs q l m d s)])

set_option maxRecDepth 100000 in
set_option maxHeartbeats 8000000 in
theorem print_any (p : Option Addr) (xs : List Int) (c : Nat) (q l m d s : Int) (w : World) (h : IntsL w p xs) (hc : xs.length ≤ c) (hl : xs.length ≤ 1000000) (hL : LaidN w) :
    Calls Tryz.prog 5 #[cfgV p xs.length c q l m d s] w fun e w' => PrintOut xs q l m d s e ∧ Mod NoB w w' := by
  have hB := heap_alloc_new w (.cells #[.slice p xs.length c, .int .i64 q, .int .i64 l, .int .i64 m, .int .i64 d, .int .i64 s] 24)
  have hm0 := (Mod.refl NoB w).alloc (.cells #[.slice p xs.length c, .int .i64 q, .int .i64 l, .int .i64 m, .int .i64 d, .int .i64 s] 24)
  have hck := hide (check_any p xs c q l m d s _ (h.mod0 hm0) hc hl)
  have hx0 := hide (h.mod0 hm0)
  have hL0 := hide (hL.mod hm0)
  have hB0 := hide hB
  replace hm0 := hide hm0
  clear h hL hB
  go_enter Tryz.func5, Tryz.ntmps5
  go_wp2_with fail
  obtain ⟨W0, hW0⟩ : ∃ W0, w.alloc (.cells #[.slice p xs.length c, .int .i64 q, .int .i64 l, .int .i64 m, .int .i64 d, .int .i64 s] 24) = W0 := ⟨_, rfl⟩
  rw [hW0] at hck hx0 hL0 hm0 hB0 ⊢
  clear hW0
  refine hck.out.mono ?_
  rintro e w1 ⟨rfl, hm1⟩
  by_cases hz : checkR xs q l m d s = 0
  · have hF := check_fine hz
    have hN := fine_nums hF
    have hpre := hide (srvErr_pre hF.srv)
    have hfew := hF.few
    clear hF
    have hout : Hid (PrintOut xs q l m d s (.returned (.tuple #[.string (bs (printT xs q l m d s)), .int .i64 0]))) := hide (by unfold PrintOut; rw [if_pos hz, hz])
    rw [hz]
    have hL1 := hide (hL0.out.mod hm1)
    have hx1 := hx0.out.mod0 hm1
    have hB1 := hm1.heap hB0.out id
    have hmw := hide (hm0.out.trans hm1)
    have hbase := hide (Lib.fresh_isBuilder 41 5 w1)
    have hlo := lt_of_block hB1
    have hp1 := hide (pline1 w1 hL1.out (.cells #[.pointer none, .slice none 0 0] 41))
    have hp2 := hide (pline2 w1 hL1.out (.cells #[.pointer none, .slice none 0 0] 41))
    clear hz hck hm1 hL0 hx0 hB0 hm0
    have b0 := cell_of_block hB1 0 (v := .slice p xs.length c) rfl
    replace hx1 := hide hx1
    replace hB1 := hide hB1
    replace hN := hide hN
    go_wp2_with fail
    have hold := hide (fun wr (hk : KeepB w1.heap.size w1.heap.size (w1.alloc (.cells #[.pointer none, .slice none 0 0] 41)) wr) => hk.old)
    go_loopw [18] (fun vi wr => ∃ i : Nat, i ≤ xs.length ∧ vi = .int .i64 i ∧ BldAt w1.heap.size w1.heap.size (srvT (xs.take i)) wr ∧ KeepB w1.heap.size w1.heap.size (w1.alloc (.cells #[.pointer none, .slice none 0 0] 41)) wr) (fun vi _ => xs.length - (intOf vi).toNat)
    case atStart => exact ⟨0, by omega, rfl, hbase.out, KeepB.refl _ _ _⟩
    case round =>
      obtain ⟨i, hi, rfl, hbr, hk⟩ := hrel
      have hmr := hold.out wr hk
      have hBr := hmr.heap hB1.out id
      have hxr := hx1.out.mod0 hmr
      have hszr := hmr.size
      have hln := srvT_len (xs.take i)
      have htl : (xs.take i).length = i := by simp; omega
      rw [htl] at hln
      by_cases hlt : i < xs.length
      · obtain ⟨bx, ox, hp, _, hcell⟩ := hxr i hlt
        obtain ⟨hr0, hr1, _⟩ := hpre.out i hlt
        have hsn : Hid (srvT (xs.take (i + 1)) = srvT (xs.take i) ++ lineT [115, 101, 114, 118, 101, 114] [xs.getD i 0]) := hide (by
          rw [List.take_add_one]
          have : xs[i]? = some (xs.getD i 0) := by simp [List.getD, hlt]
          rw [this]
          exact srvT_snoc _ _)
        subst hp
        generalize xs.getD i 0 = v at hcell hr0 hr1 hsn
        have hcall := hide (hp1.out _ [115, 101, 114, 118, 101, 114] v wr hk hbr (by omega) (by omega) (by omega) (by simp))
        clear hxr hBr hbr hk hmr
        go_wp2_with fail
        refine hcall.out.mono ?_
        rintro e w2 ⟨rfl, hb2, hk2⟩
        rw [← hsn.out] at hb2
        replace hb2 := hide hb2
        replace hk2 := hide hk2
        clear hsn hcall
        go_wp2_with fail
        go_roundw
        case rel => exact ⟨i + 1, by omega, by go_num, hb2.out, hk2.out⟩
        case measure => simp [intOf]; omega
      · obtain rfl : i = xs.length := by omega
        rw [List.take_length] at hbr hln
        obtain ⟨⟨hl0, hl1⟩, ⟨hm0, hm1⟩, ⟨hq0, hq1⟩, ⟨hd0, hd1⟩, hs0, hs1⟩ := hN.out
        have b1 := cell_of_block hBr 1 (v := .int .i64 q) rfl
        have hq := hide (hp1.out _ [113, 117, 111, 114, 117, 109] q wr hk hbr (by omega) (by omega) (by omega) (by simp))
        clear hxr hBr hbr hk hmr htl hlt hi
        go_wp2_with fail
        refine hq.out.mono ?_
        rintro e w2 ⟨rfl, hb2, hk2⟩
        have hm2 := hold.out w2 hk2
        have hB2 := hm2.heap hB1.out id
        have hz2 := hm2.size
        have b1 := cell_of_block hB2 2 (v := .int .i64 l) rfl
        have b2 := cell_of_block hB2 3 (v := .int .i64 m) rfl
        have hn2 := lineT_len [113, 117, 111, 114, 117, 109] [q]
        have hp := hide (hp2.out _ [112, 111, 108, 108] l m w2 hk2 hb2 (by omega) (by omega) (by simp at hn2 ⊢; omega) (by simp))
        clear hq hm2 hB2 hb2 hk2
        go_wp2_with fail
        refine hp.out.mono ?_
        rintro e w3 ⟨rfl, hb3, hk3⟩
        have hm3 := hold.out w3 hk3
        have hB3 := hm3.heap hB1.out id
        have hz3 := hm3.size
        have b1 := cell_of_block hB3 4 (v := .int .i64 d) rfl
        have hn3 := lineT_len [112, 111, 108, 108] [l, m]
        have hd := hide (hp1.out _ [100, 101, 108, 97, 121] d w3 hk3 hb3 (by omega) (by omega) (by simp at hn2 hn3 ⊢; omega) (by simp))
        clear hp hm3 hB3 hb3 hk3
        go_wp2_with fail
        refine hd.out.mono ?_
        rintro e w4 ⟨rfl, hb4, hk4⟩
        have hm4 := hold.out w4 hk4
        have hB4 := hm4.heap hB1.out id
        have hz4 := hm4.size
        have b1 := cell_of_block hB4 5 (v := .int .i64 s) rfl
        have hn4 := lineT_len [100, 101, 108, 97, 121] [d]
        have hs := hide (hp1.out _ [115, 108, 101, 119] s w4 hk4 hb4 (by omega) (by omega) (by simp at hn2 hn3 hn4 ⊢; omega) (by simp))
        clear hd hm4 hB4 hb4 hk4
        go_wp2_with fail
        refine hs.out.mono ?_
        rintro e w5 ⟨rfl, hb5, hk5⟩
        have hm5 := hold.out w5 hk5
        have hstr := hide (Tryz.Builder_String_any w1.heap.size w1.heap.size _ w5 hb5 hm5.size)
        replace hm5 := hide hm5
        clear hs hb5 hk5 hn2 hn3 hn4
        go_wp2_with fail
        refine hstr.out.mono ?_
        rintro e w6 ⟨rfl, hb6⟩
        have hm6 := hide (hmw.out.trans (hm5.out.into (T := fun b => w1.heap.size ≤ b) ⟨hb6.os, hb6.tape, hb6.output, hb6.size, fun k hk hn => hb6.block k (by omega)⟩ (fun b hb => Or.inr hb)))
        clear hb6 hstr
        go_wp2
        go_ret2
        refine ⟨?_, hm6.out⟩
        have hpt : printT xs q l m d s = srvT xs ++ (lineT [113, 117, 111, 114, 117, 109] [q] ++ (lineT [112, 111, 108, 108] [l, m] ++ (lineT [100, 101, 108, 97, 121] [d] ++ lineT [115, 108, 101, 119] [s]))) := by simp only [printT, List.append_assoc]
        rw [hpt] at hout
        exact hout.out
  · have hout : Hid (PrintOut xs q l m d s (.returned (.tuple #[.string ⟨#[]⟩, .int .i64 (checkR xs q l m d s)]))) := hide (by unfold PrintOut; rw [if_neg hz])
    have hne : (checkR xs q l m d s == 0) = false := beq_eq_false_iff_ne.mpr hz
    have hm := hide (hm0.out.trans hm1)
    generalize checkR xs q l m d s = r at *
    clear hz hck
    go_wp2
    go_ret2
    exact ⟨hout.out, hm.out⟩
end Go.Proofs.YtdcmjjinmnbaoaaGreatDoor
namespace Go.Proofs.YtdcmjjinmnbaoaaGreatDoor
open Go.RowKit

/-- Which word is it? -/
def keyOf (s : List UInt8) : Option Nat := (List.range 5).find? fun k => keyW k == s
theorem keyOf_some {s : List UInt8} {k : Nat} (h : keyOf s = some k) : k < 5 ∧ keyW k = s := by
  unfold keyOf at h
  exact ⟨by simpa using List.mem_of_find?_eq_some h, by simpa using List.find?_some h⟩
theorem keyOf_none {s : List UInt8} (h : keyOf s = none) : ∀ k, k < 5 → keyW k ≠ s := by
  unfold keyOf at h
  intro k hk
  have := List.find?_eq_none.1 h k (by simpa using hk)
  simpa using this
theorem keyOf_keyW {k : Nat} (h : k < 5) : keyOf (keyW k) = some k := by
  have : ∀ k, k < 5 → keyOf (keyW k) = some k := by decide
  exact this k h
/-- The first error among words that are to be numbers. -/
def numsE : List (List UInt8) → Int
  | [] => 0
  | s :: r => if (numR s).2 = 0 then numsE r else (numR s).2
theorem numsE_at : ∀ {ws : List (List UInt8)} {i : Nat}, (∀ j, j < i → (numR (ws.getD j [])).2 = 0) → i < ws.length → (numR (ws.getD i [])).2 ≠ 0 → numsE ws = (numR (ws.getD i [])).2 := by
  intro ws
  induction ws with
  | nil => intro i _ h; simp at h
  | cons s r ih =>
    intro i h hi hne
    cases i with
    | zero => simp at hne ⊢; rw [numsE, if_neg hne]
    | succ i =>
      have h0 := h 0 (by omega)
      simp at h0
      rw [numsE, if_pos h0]
      have := ih (i := i) (fun j hj => by have := h (j + 1) (by omega); simpa using this) (by simp at hi; omega) (by simpa using hne)
      simpa using this
theorem numsE_all : ∀ {ws : List (List UInt8)}, (∀ j, j < ws.length → (numR (ws.getD j [])).2 = 0) → numsE ws = 0 := by
  intro ws
  induction ws with
  | nil => intro _; rfl
  | cons s r ih =>
    intro h
    have h0 := h 0 (by simp)
    simp at h0
    rw [numsE, if_pos h0]
    exact ih fun j hj => by have := h (j + 1) (by simp; omega); simpa using this
/-- A config, and which words were seen. -/
abbrev St := Cfg × (Nat → Bool)
def putF (a : Cfg) (k : Nat) (xs : List Int) : Cfg :=
  match k with
  | 1 => { a with q := xs.getD 0 0 }
  | 2 => { a with l := xs.getD 0 0, m := xs.getD 1 0 }
  | 3 => { a with d := xs.getD 0 0 }
  | 4 => { a with s := xs.getD 0 0 }
  | _ => a
def takeR (k : Nat) (xs : List Int) (st : St) : Int × St :=
  if k = 0 then (if inI st.1.srv (xs.getD 0 0) = true then (12, st) else if st.1.srv.length = 16 then (11, st) else (0, ({ st.1 with srv := st.1.srv ++ [xs.getD 0 0] }, st.2)))
  else (0, (putF st.1 k xs, st.2))
def lineK (k : Nat) (ws : List (List UInt8)) (st : St) : Int × St :=
  if (ws.length : Int) ≠ 1 + manyW k then (6, st) else if numsE (ws.drop 1) ≠ 0 then (numsE (ws.drop 1), st)
  else if st.2 k = true ∧ k ≠ 0 then (12, st) else takeR k ((ws.drop 1).map fun s => (numR s).1) (st.1, upd st.2 k true)
/-- What a line does. -/
def lineR (ws : List (List UInt8)) (st : St) : Int × St := match keyOf (ws.getD 0 []) with
  | none => (10, st)
  | some k => lineK k ws st

/-- A word's block, and what hangs on it, below base. -/
def WordB (base bc B0 : Nat) (k : Nat) (seen : Bool) (w : World) (b : Nat) : Prop :=
  b < base ∧ if k = 0 then w.heap[b]? = some (.cells #[.int .i64 1, .bool true, .bool seen, fServer B0] 63 (0, 0))
  else ∃ bl ba, bl < base ∧ ba < base ∧ w.heap[b]? = some (.cells #[.int .i64 (fieldsW k).length, .bool false, .bool seen, fTake bl] 63 (0, 0)) ∧
    w.heap[bl]? = some (.cells #[.slice (some ⟨ba, 0, none⟩) (fieldsW k).length (fieldsW k).length] 79 (0, 0)) ∧ w.heap[ba]? = some (.cells ((fieldsW k).map (at0c bc)).toArray 80 (0, 0))
theorem WordAt.below {bc B0 k : Nat} {seen : Bool} {w : World} {b : Nat} (h : WordAt bc B0 k seen w b) : WordB w.heap.size bc B0 k seen w b := by
  have hlt := h.lt
  refine ⟨hlt, ?_⟩
  unfold WordAt at h
  split at h
  · rename_i hk; rw [if_pos hk]; exact h
  · rename_i hk
    rw [if_neg hk]
    obtain ⟨bl, ba, h1, h2, h3⟩ := h
    exact ⟨bl, ba, lt_of_block h2, lt_of_block h3, h1, h2, h3⟩
theorem WordB.keep {S : Nat → Prop} {base bc B0 k : Nat} {seen : Bool} {w w' : World} {b : Nat} (h : WordB base bc B0 k seen w b) (hm : Mod S w w') (hS : ∀ x c t, x < base → w.heap[x]? = some (.cells c t (0, 0)) → (t = 63 ∨ t = 79 ∨ t = 80) → ¬ S x) : WordB base bc B0 k seen w' b := by
  obtain ⟨hb, h⟩ := h
  refine ⟨hb, ?_⟩
  split
  · rename_i hk
    rw [if_pos hk] at h
    exact hm.heap h (hS _ _ _ hb h (Or.inl rfl))
  · rename_i hk
    rw [if_neg hk] at h
    obtain ⟨bl, ba, l1, l2, h1, h2, h3⟩ := h
    exact ⟨bl, ba, l1, l2, hm.heap h1 (hS _ _ _ hb h1 (Or.inl rfl)), hm.heap h2 (hS _ _ _ l1 h2 (Or.inr (Or.inl rfl))), hm.heap h3 (hS _ _ _ l2 h3 (Or.inr (Or.inr rfl)))⟩

/-- What conf.line works on. -/
structure CM (base bc B0 bM : Nat) (b : Nat → Nat) (order : List Nat) (st : St) (w : World) : Prop where
  map : w.heap[bM]? = some (.map (ents (fun k => at0c (b k) 0) order).toArray order.length)
  nodup : order.Nodup
  all : ∀ k, k ∈ order ↔ k < 5
  box : w.heap[B0]? = some (.cells #[at0c bc 0] 54 (0, 0))
  word : ∀ k, k < 5 → WordB base bc B0 k (st.2 k) w (b k)
  apart : ∀ j k, j < 5 → k < 5 → j ≠ k → b j ≠ b k
  cfg : CfgAt base bc st.1 w
  low : bc < base ∧ B0 < base ∧ bM < base
  ahead : bc < B0 ∧ B0 < bM ∧ ∀ k, k < 5 → bc < b k
  size : base ≤ w.heap.size
theorem CM.keep {base bc B0 bM : Nat} {b : Nat → Nat} {order : List Nat} {st : St} {w w' : World} (h : CM base bc B0 bM b order st w) (hm : Mod NoB w w') : CM base bc B0 bM b order st w' :=
  ⟨hm.heap h.map id, h.nodup, h.all, hm.heap h.box id, fun k hk => (h.word k hk).keep hm (fun _ _ _ _ _ _ f => f.elim), h.apart, let ⟨v, h1, h2⟩ := h.cfg; ⟨v, hm.heap h1 id, ownsRow_mod h2 hm (fun _ f => f.elim)⟩, h.low, h.ahead, Nat.le_trans h.size hm.size⟩
end Go.Proofs.YtdcmjjinmnbaoaaGreatDoor
namespace Go.Proofs.YtdcmjjinmnbaoaaGreatDoor
open Go.RowKit

/-- The first line with a byte that may not be. -/
def badAt (l : List UInt8) : Option Nat := (List.range (partsN 10 l)).find? fun j => !okLine l j
theorem badAt_some {l : List UInt8} {j : Nat} (h1 : j < partsN 10 l) (h2 : okLine l j = false) (h3 : ∀ i, i < j → okLine l i = true) : badAt l = some j := by
  unfold badAt
  rw [List.find?_eq_some_iff_getElem]
  refine ⟨by simp [h2], j, by simpa using h1, by simp, fun i hi => ?_⟩
  simp [h3 i hi]
theorem badAt_none {l : List UInt8} (h : ∀ i, i < partsN 10 l → okLine l i = true) : badAt l = none := by
  unfold badAt
  rw [List.find?_eq_none]
  intro i hi
  simp [h i (by simpa using hi)]

def seenAll (s : Nat → Bool) : Bool := s 0 && s 1 && s 2 && s 3 && s 4
theorem seenAll_true {s : Nat → Bool} (h : ∀ k, k < 5 → s k = true) : seenAll s = true := by
  simp [seenAll, h]
theorem seenAll_false {s : Nat → Bool} {k : Nat} (hk : k < 5) (h : s k = false) : seenAll s = false := by
  rcases bounds5 k hk with rfl | rfl | rfl | rfl | rfl <;> simp [seenAll, h]

/-- Lines in turn, up to the first error: the line, the error, what has come of it. -/
def linesR : List (Nat × List (List UInt8)) → St → Int × Int × St
  | [], st => (0, 0, st)
  | (n, ws) :: r, st => if (lineR ws st).1 = 0 then linesR r (lineR ws st).2 else ((n : Int), (lineR ws st).1, st)
theorem linesR_ok {n : Nat} {ws : List (List UInt8)} {r : List (Nat × List (List UInt8))} {st : St} (h : (lineR ws st).1 = 0) : linesR ((n, ws) :: r) st = linesR r (lineR ws st).2 := by
  rw [linesR, if_pos h]
theorem linesR_bad {n : Nat} {ws : List (List UInt8)} {r : List (Nat × List (List UInt8))} {st : St} (h : (lineR ws st).1 ≠ 0) : linesR ((n, ws) :: r) st = ((n : Int), (lineR ws st).1, st) := by
  rw [linesR, if_neg h]
theorem linesR_app : ∀ (L M : List (Nat × List (List UInt8))) (st : St), (linesR L st).2.1 = 0 → linesR (L ++ M) st = linesR M (linesR L st).2.2 := by
  intro L
  induction L with
  | nil => intro M st _; rfl
  | cons x L ih =>
    intro M st h
    obtain ⟨n, ws⟩ := x
    by_cases h0 : (lineR ws st).1 = 0
    · rw [linesR_ok h0] at h
      rw [List.cons_append, linesR_ok h0, linesR_ok h0]
      exact ih M _ h
    · rw [linesR_bad h0] at h
      exact absurd h h0

def cfg0 : Cfg := ⟨[], 0, 0, 0, 0, 0⟩
def st0 : St := (cfg0, fun _ => false)
def checkC (a : Cfg) : Int := checkR a.srv a.q a.l a.m a.d a.s
def endR (x : Int × Int × St) : Cfg × Int × Int :=
  if x.2.1 ≠ 0 then (cfg0, x.1, x.2.1) else if seenAll x.2.2.2 = false then (cfg0, 0, 13) else if checkC x.2.2.1 ≠ 0 then (cfg0, 0, checkC x.2.2.1) else (x.2.2.1, 0, 0)
/-- What a text comes to: the config, the line, the error. -/
def parseR (l : List UInt8) : Cfg × Int × Int :=
  if 65536 < l.length then (cfg0, 0, 7) else
  match badAt l with
  | some j => (cfg0, ((j + 1 : Nat) : Int), 6)
  | none => endR (linesR (linesTo l (partsN 10 l)) st0)
theorem parseR_long {l : List UInt8} (h : 65536 < l.length) : parseR l = (cfg0, 0, 7) := if_pos h
theorem parseR_bad {l : List UInt8} (h : ¬ 65536 < l.length) {j : Nat} (hb : badAt l = some j) : parseR l = (cfg0, ((j + 1 : Nat) : Int), 6) := by
  unfold parseR
  rw [if_neg h, hb]
theorem parseR_lines {l : List UInt8} (h : ¬ 65536 < l.length) (hb : badAt l = none) : parseR l = endR (linesR (linesTo l (partsN 10 l)) st0) := by
  unfold parseR
  rw [if_neg h, hb]
theorem endR_err {x : Int × Int × St} (h : x.2.1 ≠ 0) : endR x = (cfg0, x.1, x.2.1) := if_pos h
theorem endR_lack {x : Int × Int × St} (h : x.2.1 = 0) (h2 : seenAll x.2.2.2 = false) : endR x = (cfg0, 0, 13) := by
  unfold endR
  rw [if_neg (by simp [h]), if_pos h2]
theorem endR_check {x : Int × Int × St} (h : x.2.1 = 0) (h2 : seenAll x.2.2.2 = true) (h3 : checkC x.2.2.1 ≠ 0) : endR x = (cfg0, 0, checkC x.2.2.1) := by
  unfold endR
  rw [if_neg (by simp [h]), if_neg (by simp [h2]), if_pos h3]
theorem endR_ok {x : Int × Int × St} (h : x.2.1 = 0) (h2 : seenAll x.2.2.2 = true) (h3 : checkC x.2.2.1 = 0) : endR x = (x.2.2.1, 0, 0) := by
  unfold endR
  rw [if_neg (by simp [h]), if_neg (by simp [h2]), if_neg (by simp [h3])]

/-- What has no line of a newline of its own: a config's own lines. -/
def srvW : List UInt8 := [115, 101, 114, 118, 101, 114]
def lineB (wd : List UInt8) (xs : List Int) : List UInt8 := wd ++ numsT xs
def bodyC (a : Cfg) : List (List UInt8) :=
  a.srv.map (fun x => lineB (keyW 0) [x]) ++ [lineB (keyW 1) [a.q], lineB (keyW 2) [a.l, a.m], lineB (keyW 3) [a.d], lineB (keyW 4) [a.s]]
/-- Lines, each with its end. -/
def ends : List (List UInt8) → List UInt8
  | [] => []
  | s :: r => s ++ 10 :: ends r
theorem ends_app (L M : List (List UInt8)) : ends (L ++ M) = ends L ++ ends M := by
  induction L with
  | nil => rfl
  | cons s L ih => rw [List.cons_append, ends, ends, ih]; simp
theorem ends_nl (L : List (List UInt8)) (x : List UInt8) : ends L ++ x = nl (L ++ [x]) := by
  induction L with
  | nil => simp [ends, nl]
  | cons s L ih => rw [List.cons_append, nl_cons (by simp), ends, ← ih]; simp
theorem printT_ends (a : Cfg) : printT a.srv a.q a.l a.m a.d a.s = ends (bodyC a) := by
  have h : ∀ xs : List Int, srvT xs = ends (xs.map (fun x => lineB (keyW 0) [x])) := by
    intro xs
    induction xs with
    | nil => rfl
    | cons x xs ih => rw [srvT, ih, List.map_cons, ends]; simp [lineT, lineB, keyW]
  unfold printT bodyC
  rw [ends_app, h]
  simp [lineT, lineB, keyW, ends]
end Go.Proofs.YtdcmjjinmnbaoaaGreatDoor
namespace Go.Proofs.YtdcmjjinmnbaoaaGreatDoor
open Go.RowKit

theorem ents_at {v : Nat → Value} {order : List Nat} {k : Nat} (h : k ∈ order) : ∃ x ∈ (ents v order).toArray.toList, x.key = .string ⟨(keyW k).toArray⟩ ∧ x.val = v k := by
  obtain ⟨i, hi, rfl⟩ := List.getElem_of_mem h
  refine ⟨{ key := .string ⟨(keyW order[i]).toArray⟩, val := v order[i], born := i }, ?_, rfl, rfl⟩
  unfold ents
  simp only [List.mem_map]
  exact ⟨(order[i], i), by rw [List.mem_zipIdx_iff_getElem?]; simp [hi], rfl⟩
theorem zeroWord (w : World) : (zeroValue 60).run Tryz.prog w = .ok (.pointer none) w := by kernel_rfl
theorem look_word {bM : Nat} {b : Nat → Nat} {order : List Nat} {w : World} {k : Nat} (k5 : k < 5) (hb : w.heap[bM]? = some (.map (ents (fun k => at0c (b k) 0) order).toArray order.length)) (hall : ∀ k, k ∈ order ↔ k < 5) {s : List UInt8} (hs : keyW k = s) :
    (Instr.lookup 55 (.map (some bM)) (.string (bs s)) true).run Tryz.prog w = .ok (.tuple #[at0c (b k) 0, .bool true]) w := by
  subst hs
  obtain ⟨x, hx, hk, hv⟩ := ents_at (v := fun k => at0c (b k) 0) ((hall k).2 k5)
  have := run_lookS Tryz.underlying55 Tryz.underlying9 (bs (keyW k)) (e := x) hb ents_keys hx hk (by
    intro y hy hyk
    obtain ⟨j, hj, h1, h2⟩ := ents_mem (by simpa using hy)
    rw [h1] at hyk
    have h3 : keyW j = keyW k := by simpa using hyk
    obtain rfl := keyW_inj j ((hall j).1 hj) k k5 h3
    rw [h2, hv])
  rw [hv] at this
  exact this
theorem look_none {bM : Nat} {b : Nat → Nat} {order : List Nat} {w : World} (hb : w.heap[bM]? = some (.map (ents (fun k => at0c (b k) 0) order).toArray order.length)) (hall : ∀ k, k ∈ order ↔ k < 5) {s : List UInt8} (hs : keyOf s = none) :
    (Instr.lookup 55 (.map (some bM)) (.string (bs s)) true).run Tryz.prog w = .ok (.tuple #[.pointer none, .bool false]) w := by
  refine run_lookN Tryz.underlying55 Tryz.underlying9 zeroWord (bs s) hb ents_keys ?_
  intro x hx e
  obtain ⟨j, hj, h1, _⟩ := ents_mem (by simpa using hx)
  rw [h1] at e
  exact keyOf_none hs j ((hall j).1 hj) (by simpa using e)

/-- The words of a line in memory. -/
def WordsAt (g : Nat) (ws : List (List UInt8)) (w : World) : Prop := ∀ j s, ws[j]? = some s → w.cell? ⟨g, j, none⟩ = some (.string (bs s))

def LineOut (base bc B0 bM : Nat) (b : Nat → Nat) (order : List Nat) (st : St) (ws : List (List UInt8)) (w : World) (e : Ending) (w' : World) : Prop :=
  e = .returned (.int .i64 (lineR ws st).1) ∧ ((lineR ws st).1 = 0 → CM base bc B0 bM b order (lineR ws st).2 w') ∧ ((lineR ws st).1 ≠ 0 → Mod (fun x => bc ≤ x ∧ x < base) w w')

theorem many_small : ∀ k, k < 5 → manyW k = 1 ∨ manyW k = 2 := by decide
theorem many_fields : ∀ k, k < 5 → 0 < k → ((fieldsW k).length : Int) = manyW k := by decide

theorem WordB.at0 {base bc B0 k : Nat} {seen : Bool} {w : World} {b : Nat} (h : WordB base bc B0 k seen w b) (k5 : k < 5) : ∃ f, w.heap[b]? = some (.cells #[.int .i64 (manyW k), .bool (decide (k = 0)), .bool seen, f] 63 (0, 0)) := by
  obtain ⟨_, h⟩ := h
  by_cases hk : k = 0
  · subst hk
    rw [if_pos rfl] at h
    exact ⟨_, h⟩
  · rw [if_neg hk] at h
    obtain ⟨bl, ba, _, _, h1, _⟩ := h
    rw [many_fields k k5 (by omega)] at h1
    refine ⟨fTake bl, ?_⟩
    rw [h1]
    simp [hk]

set_option maxRecDepth 100000 in
set_option maxHeartbeats 4000000 in
theorem line_none (base bc B0 bM : Nat) (b : Nat → Nat) (order : List Nat) (st : St) (ws : List (List UInt8)) (g cap : Nat) (w : World) (hC : CM base bc B0 bM b order st w) (h0 : 0 < ws.length) (hw : WordsAt g ws w) (hk : keyOf (ws.getD 0 []) = none) :
    Calls Tryz.prog 21 #[.map (some bM), .slice (some ⟨g, 0, none⟩) ws.length cap] w fun e w' => e = .returned (.int .i64 10) ∧ w' = w := by
  obtain ⟨s, hs⟩ : ∃ s, ws[0]? = some s := ⟨ws[0], by simp [h0]⟩
  have hc := hw 0 s hs
  have hk' : keyOf s = none := by simpa [List.getD, hs] using hk
  have hlk := look_none (w := w) hC.map hC.all hk'
  have hl0 : (0 : Int) < (ws.length : Int) := by omega
  clear hs hk hk' hw hC
  go_enter Tryz.func21, Tryz.ntmps21
  go_wp2
  go_ret
  exact ⟨rfl, rfl⟩

set_option maxRecDepth 100000 in
set_option maxHeartbeats 4000000 in
theorem line_form (base bc B0 bM : Nat) (b : Nat → Nat) (order : List Nat) (st : St) (ws : List (List UInt8)) (g cap : Nat) (w : World) (hC : CM base bc B0 bM b order st w) (h0 : 0 < ws.length) (hw : WordsAt g ws w) {k : Nat} (hk : keyOf (ws.getD 0 []) = some k) (hl : ws.length < 1000000) (hn : (ws.length : Int) ≠ 1 + manyW k) :
    Calls Tryz.prog 21 #[.map (some bM), .slice (some ⟨g, 0, none⟩) ws.length cap] w fun e w' => e = .returned (.int .i64 6) ∧ w' = w := by
  obtain ⟨s, hs⟩ : ∃ s, ws[0]? = some s := ⟨ws[0], by simp [h0]⟩
  have hc := hw 0 s hs
  have hk' : keyOf s = some k := by simpa [List.getD, hs] using hk
  obtain ⟨k5, hks⟩ := keyOf_some hk'
  have hlk := look_word (w := w) k5 hC.map hC.all hks
  have hl0 : (0 : Int) < (ws.length : Int) := by omega
  obtain ⟨f, hb⟩ := (hC.word k k5).at0 k5
  have hc0 := cell_of_block hb 0 (v := .int .i64 (manyW k)) rfl
  have hms := many_small k k5
  generalize manyW k = m at hn hc0 hms
  have hm0 : 0 ≤ m := by omega
  have hm1 : m ≤ 2 := by omega
  have hne : ((ws.length : Int) != 1 + m) = true := by simpa [bne_iff_ne] using hn
  clear hs hk hk' hw hC hks hb hms hn
  go_enter Tryz.func21, Tryz.ntmps21
  go_wp2
  go_ret
  exact ⟨rfl, rfl⟩
end Go.Proofs.YtdcmjjinmnbaoaaGreatDoor
namespace Go.Proofs.YtdcmjjinmnbaoaaGreatDoor
open Go.RowKit

/-- The numbers of the first i words. -/
def numsV (ns : List (List UInt8)) (i : Nat) : List Int := (ns.take i).map fun s => (numR s).1
theorem numsV_succ {ns : List (List UInt8)} {i : Nat} {s : List UInt8} (h : ns[i]? = some s) : numsV ns (i + 1) = numsV ns i ++ [(numR s).1] := by
  unfold numsV
  rw [List.take_add_one, h]
  simp
theorem numsV_len {ns : List (List UInt8)} {i : Nat} (h : i ≤ ns.length) : (numsV ns i).length = i := by
  simp [numsV]; omega

theorem CM.seen {base bc B0 bM : Nat} {b : Nat → Nat} {order : List Nat} {st : St} {w : World} (h : CM base bc B0 bM b order st w) {k : Nat} (k5 : k < 5) :
    CM base bc B0 bM b order (st.1, upd st.2 k true) (w.setCell ⟨b k, 2, none⟩ (.bool true)) := by
  have hm : Mod (· = b k) w (w.setCell ⟨b k, 2, none⟩ (.bool true)) := (Mod.refl _ _).set1 _ _
  obtain ⟨f, hb⟩ := (h.word k k5).at0 k5
  obtain ⟨v, c1, c2⟩ := h.cfg
  have hlt := (h.word k k5).1
  have hbk := h.ahead.2.2 k k5
  refine ⟨hm.heap h.map (fun e => by have := h.map; rw [e, hb] at this; cases this), h.nodup, h.all, hm.heap h.box (fun e => by have := h.box; rw [e, hb] at this; cases this), ?_, h.apart, ?_, h.low, h.ahead, Nat.le_trans h.size hm.size⟩
  · intro j j5
    by_cases hj : j = k
    · subst hj
      show WordB base bc B0 j (upd st.2 j true j) _ _
      rw [upd_same]
      obtain ⟨h1, h2⟩ := h.word j j5
      refine ⟨h1, ?_⟩
      by_cases hj0 : j = 0
      · rw [if_pos hj0] at h2 ⊢
        rw [heap_setCell_eq h2]; simp
      · rw [if_neg hj0] at h2 ⊢
        obtain ⟨bl, ba, l1, l2, g1, g2, g3⟩ := h2
        refine ⟨bl, ba, l1, l2, by rw [heap_setCell_eq g1]; simp, hm.heap g2 (fun e => by rw [e, g1] at g2; simp at g2), hm.heap g3 (fun e => by rw [e, g1] at g3; simp at g3)⟩
    · show WordB base bc B0 j (upd st.2 k true j) _ _
      rw [upd_ne _ _ hj]
      obtain ⟨h1, h2⟩ := h.word j j5
      refine ⟨h1, ?_⟩
      have hjk := h.apart j k j5 k5 hj
      by_cases hj0 : j = 0
      · rw [if_pos hj0] at h2 ⊢
        exact hm.heap h2 hjk
      · rw [if_neg hj0] at h2 ⊢
        obtain ⟨bl, ba, l1, l2, g1, g2, g3⟩ := h2
        exact ⟨bl, ba, l1, l2, hm.heap g1 hjk, hm.heap g2 (fun e => by rw [e, hb] at g2; simp at g2), hm.heap g3 (fun e => by rw [e, hb] at g3; simp at g3)⟩
  · exact ⟨v, hm.heap c1 (fun e => by rw [e, hb] at c1; simp at c1), ownsRow_mod c2 hm (fun x e => by omega)⟩

/-- The config is written. -/
theorem CM.put {base bc B0 bM : Nat} {b : Nat → Nat} {order : List Nat} {st : St} {w w' : World} (h : CM base bc B0 bM b order st w) {a : Cfg} (hm : Mod (fun x => x = bc ∨ base ≤ x) w w') (hc : CfgAt base bc a w') : CM base bc B0 bM b order (a, st.2) w' := by
  obtain ⟨v, c1, _⟩ := h.cfg
  obtain ⟨a1, a2, a3⟩ := h.ahead
  obtain ⟨l1, l2, l3⟩ := h.low
  refine ⟨hm.heap h.map (by omega), h.nodup, h.all, hm.heap h.box (by omega), fun k k5 => (h.word k k5).keep hm ?_, h.apart, hc, h.low, h.ahead, Nat.le_trans h.size hm.size⟩
  intro x c t hx hb ht
  rintro (rfl | e)
  · rw [c1] at hb
    simp only [Option.some.injEq, Obj.cells.injEq] at hb
    obtain ⟨_, rfl, _⟩ := hb
    rcases ht with e | e | e <;> exact absurd e (by decide)
  · omega
end Go.Proofs.YtdcmjjinmnbaoaaGreatDoor
namespace Go.Proofs.YtdcmjjinmnbaoaaGreatDoor
open Go.RowKit

abbrev cfgCells (v : Value) (a : Cfg) : Array Value := #[v, .int .i64 a.q, .int .i64 a.l, .int .i64 a.m, .int .i64 a.d, .int .i64 a.s]
theorem setF_put {k : Nat} (k0 : 0 < k) (k5 : k < 5) (xs : List Int) (v : Value) (a : Cfg) : setF (fieldsW k) xs (cfgCells v a) (fieldsW k).length = cfgCells v (putF a k xs) ∧ (putF a k xs).srv = a.srv := by
  rcases bounds5 k k5 with rfl | rfl | rfl | rfl | rfl
  · omega
  all_goals exact ⟨rfl, rfl⟩
theorem fields_at : ∀ k, k < 5 → ∀ i, i < (fieldsW k).length → (fieldsW k).getD i 0 < 6 := by decide

set_option maxRecDepth 100000 in
set_option maxHeartbeats 8000000 in
theorem line_long (base bc B0 bM : Nat) (b : Nat → Nat) (order : List Nat) (st : St) (s0 : List UInt8) (ns : List (List UInt8)) (g cap : Nat) (w : World) (hC : CM base bc B0 bM b order st w) (hw : WordsAt g (s0 :: ns) w) {k : Nat} (hk : keyOf s0 = some k) (hn : (ns.length : Int) = manyW k)
    (hcap : ns.length + 1 ≤ cap) (hcm : cap ≤ 9223372036854775807) (hlen : ∀ s ∈ ns, s.length ≤ 1000000) (hL : LaidN w) (h16 : st.1.srv.length ≤ 1000) :
    Calls Tryz.prog 21 #[.map (some bM), .slice (some ⟨g, 0, none⟩) (ns.length + 1) cap] w fun e w' => LineOut base bc B0 bM b order st (s0 :: ns) w e w' ∧ Mod (bc ≤ ·) w w' := by
  have hc := hw 0 s0 rfl
  obtain ⟨k5, hks⟩ := keyOf_some hk
  have hlk := look_word (w := w) k5 hC.map hC.all hks
  obtain ⟨f, hb⟩ := (hC.word k k5).at0 k5
  have hc0 := cell_of_block hb 0 (v := .int .i64 (manyW k)) rfl
  have hms := many_small k k5
  rw [← hn] at hc0 hms
  have hn1 : 1 ≤ ns.length := by omega
  have hn2 : ns.length ≤ 2 := by omega
  have hl0 : (0 : Int) < (ns.length : Int) + 1 := by omega
  have hl1 : (1 : Int) ≤ (cap : Int) := by omega
  have hl2 : (1 : Int) ≤ (ns.length : Int) + 1 := by omega
  have hne : (((ns.length : Int) + 1) != 1 + (ns.length : Int)) = false := by simp; omega
  have hcw := hide hw
  have hnum := fun (i : Nat) (s : List UInt8) (h : ns[i]? = some s) w' (h' : Mod NoB w w') => number_any s w' (hlen s (List.mem_of_getElem? h)) (hL.mod h')
  replace hnum := hide hnum
  replace hC := hide hC
  replace hb := hide hb
  replace hn := hide hn
  replace hks := hide hks
  replace hk := hide hk
  obtain ⟨i0, hi, hz0, hz1, hz2⟩ := info_parts infoInt
  replace hi := hide hi
  replace hz0 := hide hz0
  replace hz1 := hide hz1
  replace hz2 := hide hz2
  clear hms hw
  go_enter Tryz.func21, Tryz.ntmps21
  go_wp2_with fail
  go_loopw [7, 35] (fun v vi wr => ∃ i : Nat, i ≤ ns.length ∧ vi = .int .i64 i ∧ wr.ownsRow w.heap.size 3 1 v i ((numsV ns i).map (.int .i64)) ∧ (∀ j, j < i → (numR (ns.getD j [])).2 = 0) ∧ Mod NoB w wr) (fun _ vi _ => ns.length - (intOf vi).toNat)
  case atStart => exact ⟨0, by omega, rfl, World.ownsRow_nil _ _ _ _, by omega, Mod.refl _ _⟩
  case round =>
    obtain ⟨i, hil, rfl, hown, hz, hm⟩ := hrel
    obtain ⟨p, n, c, rfl⟩ := own_slice hown
    by_cases hlt : i < ns.length
    · obtain ⟨s, hs⟩ : ∃ s, ns[i]? = some s := ⟨ns[i], by simp [hlt]⟩
      have hcs : wr.cell? ⟨g, 1 + i, none⟩ = some (.string (bs s)) := hm.cellAt id (hcw.out (1 + i) s (by rw [Nat.add_comm]; simpa using hs))
      have hcall := hnum.out i s hs _ hm
      have hsn := hide (numsV_succ hs)
      have hnl := hide (numsV_len (ns := ns) (i := i) (by omega))
      have hgd : Hid (ns.getD i [] = s) := hide (by simp [List.getD, hs])
      obtain ⟨v, er, hr⟩ : ∃ v er, numR s = (v, er) := ⟨_, _, rfl⟩
      rw [hr] at hcall hsn
      replace hcall := hide hcall
      replace hr := hide hr
      replace hs := hide hs
      replace hm := hide hm
      replace hz := hide hz
      replace hown := hide hown
      have hi0 : (0 : Int) ≤ (i : Int) := by omega
      have hi1 : (i : Int) < (ns.length : Int) := by omega
      go_wp2_with fail
      refine hcall.out.mono ?_
      rintro e w2 ⟨rfl, hm2⟩
      replace hown := hide (ownsRow_mod hown.out hm2 (fun _ f => f.elim))
      replace hm := hide (hm.out.trans hm2)
      clear hm2
      have hlsz : w.heap.size ≤ w2.heap.size := hm.out.size
      by_cases he : er = 0
      · subst he
        have hz2' : Hid (∀ j, j < i + 1 → (numR (ns.getD j [])).2 = 0) := hide (by
          intro j hj
          by_cases hji : j < i
          · exact hz.out j hji
          · obtain rfl : j = i := by omega
            rw [hgd.out, hr.out])
        clear hcs
        go_wp2_with (refine wpList_append_own _ rfl (.tmp 47) (.tmp 49) 22 rfl w.heap.size 3 i0 (.int .i64 0) 1 8 Tryz.underlying22 hi.out hz0.out hz1.out hz2.out rfl (by decide) (.slice p n c) i _ rfl (ownsRow_mod (S := NoB) hown.out ((Mod.refl _ _).alloc _) (fun _ h => h.elim)) ⟨w2.heap.size, 0, none⟩ 1 1 [.int .i64 v] rfl rfl (cell_one_new _ _ _) (by intro u hu; simp at hu; subst hu; rfl) (by unfold maxLen; omega) (by omega) (by simp; omega) ?_; intro v' w5 hown' hgrow _)
        go_roundw
        case rel =>
          refine ⟨i + 1, by omega, by go_num, ?_, hz2'.out, (hm.out.alloc _).grown hgrow (own_ge hown.out)⟩
          rw [hsn.out]
          simpa using hown'
        case measure => simp [intOf]; omega
      · have heb : (er != 0) = true := by simpa [bne_iff_ne] using he
        have hend : Hid (lineR (s0 :: ns) st = (er, st)) := hide (by
          have hks : keyOf ((s0 :: ns).getD 0 []) = some k := hk.out
          have hd : (s0 :: ns).drop 1 = ns := rfl
          have hne : numsE ns = er := by
            have := numsE_at hz.out hlt (by rw [hgd.out, hr.out]; exact he)
            rw [this, hgd.out, hr.out]
          unfold lineR
          rw [hks]
          show lineK k _ _ = _
          unfold lineK
          rw [if_neg (by rw [← hn.out]; simp; omega), hd, if_pos (by rw [hne]; exact he), hne])
        go_wp2
        go_ret
        refine ⟨⟨int_ret (congrArg Prod.fst hend.out).symm, fun h => ?_, fun _ => hm.out.mono (fun _ _ f => f.elim)⟩, hm.out.mono (fun _ _ f => f.elim)⟩
        rw [hend.out] at h
        exact absurd h he
    · obtain rfl : i = ns.length := by omega
      have hnv : numsV ns ns.length = ns.map fun s => (numR s).1 := by unfold numsV; rw [List.take_length]
      have hlk2 : lineR (s0 :: ns) st = if st.2 k = true ∧ k ≠ 0 then (12, st) else takeR k (numsV ns ns.length) (st.1, upd st.2 k true) := by
        have hks : keyOf ((s0 :: ns).getD 0 []) = some k := hk.out
        have hd : (s0 :: ns).drop 1 = ns := rfl
        have hne : numsE ns = 0 := numsE_all hz
        unfold lineR
        rw [hks]
        show lineK k _ _ = _
        unfold lineK
        rw [if_neg (by rw [← hn.out]; simp; omega), hd, if_neg (by rw [hne]; simp), hnv]
      have hxl := numsV_len (ns := ns) (i := ns.length) (Nat.le_refl _)
      obtain ⟨xs, hxs⟩ : ∃ xs, numsV ns ns.length = xs := ⟨_, rfl⟩
      rw [hxs] at hown hlk2 hxl
      replace hlk2 := hide hlk2
      rw [← hxl] at hown
      obtain ⟨rfl, hints, hge⟩ := own_ints hown
      have hC2 := hC.out.keep hm
      have hset := hide (hC2.seen k5)
      have hlow := hC2.low
      have hahead := hC2.ahead.2.2 k k5
      have hbw := hC2.size
      have hk1 := hC2.word k k5
      obtain ⟨hkb, hk2⟩ := hk1
      have hmset : Hid (Mod (bc ≤ ·) w (wr.setCell ⟨b k, 2, none⟩ (.bool true))) := hide ((hm.mono (fun _ _ f => f.elim)).setCell (Or.inl (by show bc ≤ b k; omega)) _)
      have hmset2 : Hid (Mod (fun x => bc ≤ x ∧ x < base) w (wr.setCell ⟨b k, 2, none⟩ (.bool true))) := hide ((hm.mono (fun _ _ f => f.elim)).setCell (Or.inl ⟨by show bc ≤ b k; omega, hkb⟩) _)
      have hms2 : Hid (Mod (· = b k) wr (wr.setCell ⟨b k, 2, none⟩ (.bool true))) := hide ((Mod.refl _ _).set1 _ _)
      by_cases hk0 : k = 0
      · subst hk0
        rw [if_pos rfl] at hk2
        have e1 := cell_of_block hk2 1 (v := .bool true) rfl
        have e2 := cell_of_block hk2 2 (v := .bool (st.2 0)) rfl
        have e3 := cell_of_block hk2 3 (v := fServer B0) rfl
        have e4 := frozen_of_block hk2 2
        replace hk2 := hide hk2
        replace hm := hide hm
        replace hown := hide hown
        replace hxl := hide hxl
        replace hxs := hide hxs
        replace hnv := hide hnv
        replace hints := hide hints
        replace hz := hide hz
        replace hC2 := hide hC2
        have hbox : Hid ((wr.setCell ⟨b 0, 2, none⟩ (.bool true)).heap[B0]? = some (.cells #[at0c bc 0] 54 (0, 0))) := hide hset.out.box
        have hcfg : Hid (CfgAt base bc st.1 (wr.setCell ⟨b 0, 2, none⟩ (.bool true))) := hide hset.out.cfg
        have hx : Hid (∃ b' off, p = some ⟨b', off, none⟩ ∧ (wr.setCell ⟨b 0, 2, none⟩ (.bool true)).cell? ⟨b', off, none⟩ = some (.int .i64 (xs.getD 0 0))) := hide (by
          obtain ⟨b', off, q1, _, q3⟩ := (hints.out.mod hms2.out (fun b' off e => by have := hge b' off e; have := hm.out.size; have := hC.out.size; omega)) 0 (by rw [hxl.out]; omega)
          exact ⟨b', off, q1, q3⟩)
        have hrest := hide (fun (er : Int) (a : Cfg) (w' : World) (h : takeR 0 xs (st.1, upd st.2 0 true) = (er, (a, upd st.2 0 true))) => hlk2.out.trans ((if_neg (by simp)).trans h))
        have hfin : Hid (∀ w', Mod (fun x => x = bc ∨ base ≤ x) (wr.setCell ⟨b 0, 2, none⟩ (.bool true)) w' → Mod (bc ≤ ·) w w') := hide (fun w' h => hmset.out.trans (h.mono (fun x _ hx => by rcases hx with rfl | hx; exact Nat.le_refl _; show bc ≤ x; omega)))
        have hn0 : 0 < xs.length := by rw [hxl.out]; omega
        cases hsn : st.2 0
        all_goals
          go_wp2_with fail
          refine (server_any base bc B0 st.1 (xs.getD 0 0) p xs.length c hn0 _ hbox.out hcfg.out hx.out hlow.1 hlow.2.1 h16 (by simpa [World.setCell] using hbw)).mono ?_
          rintro e w6 ⟨ho, hm6⟩
          replace hm6 := hide hm6
          rcases ho with ⟨o1, rfl, o4⟩ | ⟨o1, o2, rfl, o4⟩ | ⟨o1, o2, rfl, o4⟩
          · have hend : Hid ((lineR (s0 :: ns) st).1 = 12) := hide (by rw [hrest.out 12 st.1 w6 (by unfold takeR; rw [if_pos rfl, if_pos o1])])
            replace o4 := hide o4
            clear o1
            go_wp2
            go_ret
            exact ⟨⟨int_ret hend.out.symm, fun h => by rw [hend.out] at h; simp at h, fun _ => hmset2.out.trans (o4.out.mono (fun _ _ f => f.elim))⟩, hfin.out _ hm6.out⟩
          · have hend : Hid ((lineR (s0 :: ns) st).1 = 11) := hide (by rw [hrest.out 11 st.1 w6 (by unfold takeR; rw [if_pos rfl, if_neg (by rw [o1]; simp), if_pos o2])])
            replace o4 := hide o4
            clear o1 o2
            go_wp2
            go_ret
            exact ⟨⟨int_ret hend.out.symm, fun h => by rw [hend.out] at h; simp at h, fun _ => hmset2.out.trans (o4.out.mono (fun _ _ f => f.elim))⟩, hfin.out _ hm6.out⟩
          · have hend : Hid (lineR (s0 :: ns) st = (0, ({ st.1 with srv := st.1.srv ++ [xs.getD 0 0] }, upd st.2 0 true))) := hide (hrest.out 0 _ w6 (by unfold takeR; rw [if_pos rfl, if_neg (by rw [o1]; simp), if_neg o2]))
            have hcm := hide (CM.put hset.out hm6.out o4)
            clear o1 o2 o4
            go_wp2
            go_ret
            exact ⟨⟨int_ret (congrArg Prod.fst hend.out).symm, fun _ => by rw [hend.out]; exact hcm.out, fun h => absurd (congrArg Prod.fst hend.out) h⟩, hfin.out _ hm6.out⟩
      · rw [if_neg hk0] at hk2
        obtain ⟨bl, ba, l1, l2, g1, g2, g3⟩ := hk2
        have e1 := cell_of_block g1 1 (v := .bool false) rfl
        have e2 := cell_of_block g1 2 (v := .bool (st.2 k)) rfl
        have e3 := cell_of_block g1 3 (v := fTake bl) rfl
        have e4 := frozen_of_block g1 2
        replace hm := hide hm
        replace hown := hide hown
        replace hxl := hide hxl
        replace hxs := hide hxs
        replace hnv := hide hnv
        replace hints := hide hints
        replace hz := hide hz
        replace hC2 := hide hC2
        replace g1 := hide g1
        replace g2 := hide g2
        replace g3 := hide g3
        cases hsn : st.2 k
        · obtain ⟨cv, hcb, hcown⟩ := hset.out.cfg
          have hfl : xs.length = (fieldsW k).length := by
            have := many_fields k k5 (by omega)
            have := hn.out
            rw [hxl.out]; omega
          have hg2 := hms2.out.heap g2.out (fun e => by have h2 := g2.out; rw [e, g1.out] at h2; simp at h2)
          have hg3 := hms2.out.heap g3.out (fun e => by have h2 := g3.out; rw [e, g1.out] at h2; simp at h2)
          have hints2 : IntsL (wr.setCell ⟨b k, 2, none⟩ (.bool true)) p xs := hints.out.mod hms2.out (fun b' off e => by have := hge b' off e; have := hm.out.size; have := hC.out.size; omega)
          have htake := take_any bc bl ba (fieldsW k) xs p c (cfgCells cv st.1) _ hg2 hg3 hcb hints2 hfl (fun i hi => fields_at k k5 i hi) (fun b' off e => by have := hge b' off e; have := hC.out.size; omega) (by have := many_fields k k5 (by omega); have := many_small k k5; omega)
          rw [(setF_put (by omega) k5 xs cv st.1).1] at htake
          have hend : Hid (lineR (s0 :: ns) st = (0, (putF st.1 k xs, upd st.2 k true))) := hide (by
            rw [hlk2.out, if_neg (by rw [hsn]; simp)]
            unfold takeR
            rw [if_neg hk0])
          have hsrv := hide (setF_put (by omega) k5 xs cv st.1).2
          replace htake := hide htake
          replace hcb := hide hcb
          replace hcown := hide hcown
          replace hg2 := hide hg2
          replace hg3 := hide hg3
          replace hints2 := hide hints2
          replace hfl := hide hfl
          go_wp2_with fail
          refine htake.out.mono ?_
          rintro e w6 ⟨rfl, hb6, hm6⟩
          have hc6 : Hid (CfgAt base bc (putF st.1 k xs) w6) := hide ⟨cv, hb6, by
            rw [hsrv.out]
            exact ownsRow_mod hcown.out hm6 (fun x e => by omega)⟩
          have hm6' : Hid (Mod (fun x => x = bc ∨ base ≤ x) (wr.setCell ⟨b k, 2, none⟩ (.bool true)) w6) := hide (hm6.mono (fun x _ h => Or.inl h))
          have hcm := hide (CM.put hset.out hm6'.out hc6.out)
          have hfin : Hid (Mod (bc ≤ ·) w w6) := hide (hmset.out.trans (hm6.mono (fun x _ h => by show bc ≤ x; omega)))
          clear hb6 hm6
          go_wp2
          go_ret
          exact ⟨⟨int_ret (congrArg Prod.fst hend.out).symm, fun _ => by rw [hend.out]; exact hcm.out, fun h => absurd (congrArg Prod.fst hend.out) h⟩, hfin.out⟩
        · have hend : Hid ((lineR (s0 :: ns) st).1 = 12) := hide (by rw [hlk2.out, if_pos ⟨hsn, hk0⟩])
          go_wp2
          go_ret
          exact ⟨⟨int_ret hend.out.symm, fun h => by rw [hend.out] at h; simp at h, fun _ => hm.out.mono (fun _ _ f => f.elim)⟩, hm.out.mono (fun _ _ f => f.elim)⟩
/-- conf.line. -/
theorem line_any (base bc B0 bM : Nat) (b : Nat → Nat) (order : List Nat) (st : St) (ws : List (List UInt8)) (g cap : Nat) (w : World) (hC : CM base bc B0 bM b order st w) (h0 : 0 < ws.length) (hw : WordsAt g ws w)
    (hcap : ws.length ≤ cap) (hcm : cap ≤ 9223372036854775807) (hwl : ws.length < 1000000) (hlen : ∀ s ∈ ws, s.length ≤ 1000000) (hL : LaidN w) (h16 : st.1.srv.length ≤ 1000) :
    Calls Tryz.prog 21 #[.map (some bM), .slice (some ⟨g, 0, none⟩) ws.length cap] w fun e w' => LineOut base bc B0 bM b order st ws w e w' ∧ Mod (bc ≤ ·) w w' := by
  cases hk : keyOf (ws.getD 0 []) with
  | none =>
    refine (line_none base bc B0 bM b order st ws g cap w hC h0 hw hk).mono ?_
    rintro e w' ⟨rfl, rfl⟩
    have hl : lineR ws st = (10, st) := by unfold lineR; rw [hk]
    exact ⟨⟨by rw [hl], fun h => by rw [hl] at h; simp at h, fun _ => Mod.refl _ _⟩, Mod.refl _ _⟩
  | some k =>
    by_cases hn : (ws.length : Int) = 1 + manyW k
    · obtain ⟨s0, ns, rfl⟩ : ∃ s0 ns, ws = s0 :: ns := by
        cases ws with
        | nil => simp at h0
        | cons s0 ns => exact ⟨s0, ns, rfl⟩
      exact line_long base bc B0 bM b order st s0 ns g cap w hC hw (by simpa using hk) (by simp at hn; omega) (by simpa using hcap) hcm (fun s hs => hlen s (by simp [hs])) hL h16
    · refine (line_form base bc B0 bM b order st ws g cap w hC h0 hw hk hwl hn).mono ?_
      rintro e w' ⟨rfl, rfl⟩
      have hl : lineR ws st = (6, st) := by
        unfold lineR
        rw [hk]
        show lineK k ws st = _
        unfold lineK
        rw [if_pos hn]
      exact ⟨⟨by rw [hl], fun h => by rw [hl] at h; simp at h, fun _ => Mod.refl _ _⟩, Mod.refl _ _⟩
end Go.Proofs.YtdcmjjinmnbaoaaGreatDoor
namespace Go.Proofs.YtdcmjjinmnbaoaaGreatDoor
open Go.RowKit

theorem fieldsGo_len : ∀ (l cur : List UInt8), ∀ x ∈ Lib.fieldsGo cur l, x.length ≤ cur.length + l.length := by
  intro l
  induction l with
  | nil =>
    intro cur x hx
    rw [go_end] at hx
    split at hx
    · cases hx
    · simp at hx; subst hx; simp
  | cons b l ih =>
    intro cur x hx
    cases hb : Lib.isSp b with
    | true =>
      rw [go_sp hb] at hx
      rcases List.mem_append.1 hx with h | h
      · split at h
        · cases h
        · simp at h; subst h; simp
      · have := ih [] x h
        simp at this ⊢; omega
    | false =>
      rw [go_on hb] at hx
      have := ih (cur ++ [b]) x hx
      simp at this ⊢; omega
theorem words_each (l : List UInt8) (k : Nat) : ∀ s ∈ wordsOf l k, s.length ≤ l.length := by
  intro s hs
  have := fieldsGo_len (bare l k) [] s hs
  have h2 : (bare l k).length ≤ l.length := Nat.le_trans (upTo_le _ _) (Nat.le_trans (upTo_le _ _) (rest_len 10 l k))
  simp at this; omega
/-- What each line of a text is. -/
theorem linesTo_each (l : List UInt8) (k : Nat) : ∀ x ∈ linesTo l k, x.1 ≤ k ∧ 0 < x.2.length ∧ x.2.length ≤ l.length ∧ ∀ s ∈ x.2, s.length ≤ l.length := by
  induction k with
  | zero => intro x hx; cases hx
  | succ k ih =>
    intro x hx
    unfold linesTo at hx
    rcases List.mem_append.mp hx with h | h
    · obtain ⟨a, b⟩ := ih x h
      exact ⟨by omega, b⟩
    · split at h
      · rename_i h0
        simp at h; subst h; exact ⟨Nat.le_refl _, h0, words_len l k, words_each l k⟩
      · cases h
theorem take_srv {k : Nat} {xs : List Int} {st : St} (h : (takeR k xs st).1 = 0) (h16 : st.1.srv.length ≤ 16) : (takeR k xs st).2.1.srv.length ≤ 16 := by
  unfold takeR at h ⊢
  split
  · rename_i hk
    rw [if_pos hk] at h
    split
    · rename_i h2; rw [if_pos h2] at h; simp at h
    · rename_i h2
      rw [if_neg h2] at h
      split
      · rename_i h3; rw [if_pos h3] at h; simp at h
      · simp; omega
  · rename_i hk
    show (putF st.1 k xs).srv.length ≤ 16
    unfold putF
    split <;> exact h16
theorem line_srv {ws : List (List UInt8)} {st : St} (h : (lineR ws st).1 = 0) (h16 : st.1.srv.length ≤ 16) : (lineR ws st).2.1.srv.length ≤ 16 := by
  unfold lineR at h ⊢
  cases hk : keyOf (ws.getD 0 []) with
  | none => rw [hk] at h; simp at h
  | some k =>
    rw [hk] at h
    change (lineK k ws st).1 = 0 at h
    show (lineK k ws st).2.1.srv.length ≤ 16
    unfold lineK at h ⊢
    split
    · exact h16
    · rename_i h1
      rw [if_neg h1] at h
      split
      · exact h16
      · rename_i h2
        rw [if_neg h2] at h
        split
        · exact h16
        · rename_i h3
          rw [if_neg h3] at h
          exact take_srv h h16

/-- How a text's parse ends. -/
def ParseOut (r : Cfg × Int × Int) (w : World) (e : Ending) (w' : World) : Prop :=
  ∃ p c, e = .returned (.tuple #[r.1.val p c, .int .i64 r.2.1, .int .i64 r.2.2]) ∧ IntsL w' p r.1.srv ∧ r.1.srv.length ≤ c ∧ (∀ b off, p = some ⟨b, off, none⟩ → w.heap.size ≤ b) ∧ r.1.srv.length ≤ 16

theorem ParseOut.err {at_ er : Int} {w w' : World} : ParseOut (cfg0, at_, er) w (.returned (.tuple #[.agg #[.slice none 0 0, .int .i64 0, .int .i64 0, .int .i64 0, .int .i64 0, .int .i64 0], .int .i64 at_, .int .i64 er])) w' :=
  ⟨none, 0, rfl, fun j hj => by simp [cfg0] at hj, by simp [cfg0], (fun b off e => by cases e), by simp [cfg0]⟩
end Go.Proofs.YtdcmjjinmnbaoaaGreatDoor
namespace Go.Proofs.YtdcmjjinmnbaoaaGreatDoor
open Go.RowKit

theorem tabs_of {w : World} (hL : LaidN w) : ∀ x, Mod NoB w x → Lib.TabIs Tryz.prog x "strings.asciiSpace" .u8 Lib.asciiSpaceTab := fun _ hm => hL.s.mod hm

theorem set6 {W : World} {B : Nat} {x0 x1 x2 x3 x4 x5 : Value} {T : TypeId} (h : W.heap[B]? = some (.cells #[x0, x1, x2, x3, x4, x5] T (0, 0))) (y0 y1 y2 y3 y4 y5 : Value) :
    ∃ W6, (((((W.setCell ⟨B, 0, none⟩ y0).setCell ⟨B, 1, none⟩ y1).setCell ⟨B, 2, none⟩ y2).setCell ⟨B, 3, none⟩ y3).setCell ⟨B, 4, none⟩ y4).setCell ⟨B, 5, none⟩ y5 = W6 ∧ W6.heap[B]? = some (.cells #[y0, y1, y2, y3, y4, y5] T (0, 0)) ∧ Mod (· = B) W W6 := by
  refine ⟨_, rfl, ?_, (((((Mod.refl _ _).set1 _ _).set1 _ _).set1 _ _).set1 _ _).set1 _ _ |>.set1 _ _⟩
  have h1 := heap_setCell_eq (o := 0) h y0
  have h2 := heap_setCell_eq (o := 1) h1 y1
  have h3 := heap_setCell_eq (o := 2) h2 y2
  have h4 := heap_setCell_eq (o := 3) h3 y3
  have h5 := heap_setCell_eq (o := 4) h4 y4
  have h6 := heap_setCell_eq (o := 5) h5 y5
  rw [h6]
  rfl

/-- The variable of the result, six cells of it. -/
structure Six (W : World) (B : Nat) (x0 x1 x2 x3 x4 x5 : Value) : Prop where
  b0 : W.cell? ⟨B, 0, none⟩ = some x0
  b1 : W.cell? ⟨B, 1, none⟩ = some x1
  b2 : W.cell? ⟨B, 2, none⟩ = some x2
  b3 : W.cell? ⟨B, 3, none⟩ = some x3
  b4 : W.cell? ⟨B, 4, none⟩ = some x4
  b5 : W.cell? ⟨B, 5, none⟩ = some x5
  f0 : W.frozen? ⟨B, 0, none⟩ = false
  f1 : W.frozen? ⟨B, 1, none⟩ = false
  f2 : W.frozen? ⟨B, 2, none⟩ = false
  f3 : W.frozen? ⟨B, 3, none⟩ = false
  f4 : W.frozen? ⟨B, 4, none⟩ = false
  f5 : W.frozen? ⟨B, 5, none⟩ = false
theorem six_of {W : World} {B : Nat} {x0 x1 x2 x3 x4 x5 : Value} {T : TypeId} (h : W.heap[B]? = some (.cells #[x0, x1, x2, x3, x4, x5] T (0, 0))) : Six W B x0 x1 x2 x3 x4 x5 :=
  ⟨cell_of_block h 0 rfl, cell_of_block h 1 rfl, cell_of_block h 2 rfl, cell_of_block h 3 rfl, cell_of_block h 4 rfl, cell_of_block h 5 rfl, frozen_of_block h 0, frozen_of_block h 1, frozen_of_block h 2, frozen_of_block h 3, frozen_of_block h 4, frozen_of_block h 5⟩

set_option maxRecDepth 100000 in
set_option maxHeartbeats 4000000 in
theorem parse_long (l : List UInt8) (hl : 65536 < l.length) (h2 : l.length ≤ 9223372036854775807) (w : World) :
    Calls Tryz.prog 8 #[.string (bs l)] w fun e w' => ParseOut (parseR l) w e w' ∧ Mod NoB w w' := by
  have hr := parseR_long hl
  have hlines := lines_long l hl h2
  rw [hr]
  clear hr
  replace hlines := hide hlines
  go_enter Tryz.func8, Tryz.ntmps8
  go_wp2_with fail
  refine (hlines.out _).mono ?_
  rintro e w1 ⟨rfl, hm⟩
  have hm1 : Hid (Mod NoB w w1) := hide (((Mod.refl _ _).alloc _).trans hm)
  have hb : w1.heap[w.heap.size]? = some (.cells #[.slice none 0 0, .int .i64 0, .int .i64 0, .int .i64 0, .int .i64 0, .int .i64 0] 24 (0, 0)) := hm.heap (heap_alloc_new _ _) id
  clear hm
  obtain ⟨b0, b1, b2, b3, b4, b5, f0, f1, f2, f3, f4, f5⟩ := six_of hb
  obtain ⟨W6, hW6, hb6, hm6⟩ := set6 hb (.slice none 0 0) (.int .i64 0) (.int .i64 0) (.int .i64 0) (.int .i64 0) (.int .i64 0)
  replace hW6 := hide hW6
  replace hb6 := hide hb6
  replace hb := hide hb
  have hmf : Hid (Mod NoB w W6) := hide (hm1.out.into hm6 (fun b e => Or.inr (by omega)))
  clear hm6
  go_wp2
  rw [hW6.out]
  clear b0 b1 b2 b3 b4 b5 f0 f1 f2 f3 f4 f5
  obtain ⟨b0, b1, b2, b3, b4, b5, -⟩ := six_of hb6.out
  refine bodyPost_ret (v := .tuple #[.agg #[.slice none 0 0, .int .i64 0, .int .i64 0, .int .i64 0, .int .i64 0, .int .i64 0], .int .i64 0, .int .i64 7]) (by simp [results, Tryz.results8, go_sem, b0, b1, b2, b3, b4, b5]) rfl ⟨.err, hmf.out⟩
end Go.Proofs.YtdcmjjinmnbaoaaGreatDoor
namespace Go.Proofs.YtdcmjjinmnbaoaaGreatDoor
open Go.RowKit

theorem ents_born (v : Nat → Value) (order : List Nat) : (ents v order).toArray.toList.map (·.born) = List.range order.length := by
  unfold ents
  simp only [List.map_map]
  rw [List.range_eq_range']
  have := List.zipIdx_map_snd 0 order
  rw [← this]
  rfl
theorem ents_old (v : Nat → Value) (order : List Nat) : ∀ x ∈ (ents v order).toArray.toList, x.born < order.length := by
  intro x hx
  have : x.born ∈ List.range order.length := by rw [← ents_born v order]; exact List.mem_map.2 ⟨x, hx, rfl⟩
  simpa using this
theorem ents_nodup (v : Nat → Value) (order : List Nat) : ((ents v order).toArray.toList.map (·.born)).Nodup := by
  rw [ents_born]; exact List.nodup_range

theorem StrsAt.cap {base : Nat} {W : World} {u : Option Addr} {n c : Nat} {ws : List (List UInt8)} (h : StrsAt base W (.slice u n c) ws) : c ≤ 9223372036854775807 := by
  rcases h.2 with ⟨h1, _⟩ | ⟨g, cap, cur, hv, _, _, _, hm, _⟩
  · simp at h1; omega
  · simp at hv; unfold maxLen at hm; omega

set_option maxRecDepth 100000 in
set_option maxHeartbeats 16000000 in
theorem parse_lines (l : List UInt8) (hl : l.length ≤ 65536) (w : World) (hL : LaidN w) :
    Calls Tryz.prog 8 #[.string (bs l)] w fun e w' => ParseOut (parseR l) w e w' ∧ Mod NoB w w' := by
  have hlw := fun w' (h : Mod NoB w w') => lines_walk l hl w' (tabs_of (hL.mod h))
  replace hlw := hide hlw
  obtain ⟨r, hr⟩ : ∃ r, parseR l = r := ⟨_, rfl⟩
  rw [hr]
  replace hr := hide hr
  have hmw : Hid (Mod NoB w (w.alloc (.cells #[.slice none 0 0, .int .i64 0, .int .i64 0, .int .i64 0, .int .i64 0, .int .i64 0] 24))) := hide ((Mod.refl _ _).alloc _)
  go_enter Tryz.func8, Tryz.ntmps8
  go_wp2_with fail
  refine (hlw.out _ hmw.out).mono ?_
  rintro e w1 ⟨(⟨j, h1, h2, h3, rfl⟩ | ⟨hok, v, rfl, hv⟩), hm⟩
  · have hm1 : Hid (Mod NoB w w1) := hide (((Mod.refl _ _).alloc _).trans hm)
    have hb : w1.heap[w.heap.size]? = some (.cells #[.slice none 0 0, .int .i64 0, .int .i64 0, .int .i64 0, .int .i64 0, .int .i64 0] 24 (0, 0)) := hm.heap (heap_alloc_new _ _) id
    have hr2 : Hid (r = (cfg0, ((j + 1 : Nat) : Int), 6)) := hide (hr.out.symm.trans (parseR_bad (by omega) (badAt_some h1 h2 h3)))
    clear hm h1 h2 h3
    obtain ⟨b0, b1, b2, b3, b4, b5, f0, f1, f2, f3, f4, f5⟩ := six_of hb
    obtain ⟨W6, hW6, hb6, hm6⟩ := set6 hb (.slice none 0 0) (.int .i64 0) (.int .i64 0) (.int .i64 0) (.int .i64 0) (.int .i64 0)
    replace hW6 := hide hW6
    replace hb6 := hide hb6
    replace hb := hide hb
    have hmf : Hid (Mod NoB w W6) := hide (hm1.out.into hm6 (fun b e => Or.inr (by omega)))
    clear hm6
    go_wp2
    rw [hW6.out]
    clear b0 b1 b2 b3 b4 b5 f0 f1 f2 f3 f4 f5
    obtain ⟨b0, b1, b2, b3, b4, b5, -⟩ := six_of hb6.out
    rw [hr2.out]
    refine bodyPost_ret (v := .tuple #[.agg #[.slice none 0 0, .int .i64 0, .int .i64 0, .int .i64 0, .int .i64 0, .int .i64 0], .int .i64 ((j + 1 : Nat) : Int), .int .i64 6]) (by simp [results, Tryz.results8, go_sem, b0, b1, b2, b3, b4, b5]) rfl ⟨.err, hmf.out⟩
  · have hm1 : Hid (Mod NoB w w1) := hide (((Mod.refl _ _).alloc _).trans hm)
    have hb : Hid (w1.heap[w.heap.size]? = some (.cells #[.slice none 0 0, .int .i64 0, .int .i64 0, .int .i64 0, .int .i64 0, .int .i64 0] 24 (0, 0))) := hide (hm.heap (heap_alloc_new _ _) id)
    have hr2 := hide (hr.out.symm.trans (parseR_lines (by omega) (badAt_none hok)))
    obtain ⟨L, hLn⟩ : ∃ L, linesTo l (partsN 10 l) = L := ⟨_, rfl⟩
    have hLe := hide (linesTo_each l (partsN 10 l))
    have hLlen := linesTo_len l (partsN 10 l)
    rw [hLn] at hv hr2 hLe hLlen
    have hpN : partsN 10 l ≤ 65537 := by have := List.count_le_length (a := (10 : UInt8)) (l := l); simp only [partsN]; omega
    have hLl : L.length ≤ 65537 := by omega
    clear hLlen hpN hLn hm hok
    obtain ⟨p, cap, rfl, hcells⟩ := hv.open
    replace hcells := hide hcells
    clear hv
    go_wp2_with fail
    refine (words_any w1.heap.size _).mono ?_
    rintro e w3 ⟨bM, b, order, rfl, hbM, hmap, hnd, hall, hbox, hword, hap, hm3⟩
    obtain ⟨B0, hB0⟩ : ∃ B0, (w1.alloc (.cells #[.slice none 0 0, .int .i64 0, .int .i64 0, .int .i64 0, .int .i64 0, .int .i64 0] 24)).heap.size = B0 := ⟨_, rfl⟩
    have hB01 : B0 = w1.heap.size + 1 := by rw [← hB0]; simp
    rw [hB0] at hbM hbox hword
    have hcf : w3.heap[w1.heap.size]? = some (.cells #[.slice none 0 0, .int .i64 0, .int .i64 0, .int .i64 0, .int .i64 0, .int .i64 0] 24 (0, 0)) := hm3.heap (heap_alloc_new _ _) id
    have hm13 : Mod NoB w1 w3 := ((Mod.refl _ _).alloc _).trans hm3
    have hCM : Hid (CM w3.heap.size w1.heap.size B0 bM b order st0 w3) := hide ⟨hmap, hnd, hall, hbox, fun k k5 => (hword k k5).2.below, hap, ⟨_, hcf, World.ownsRow_nil _ _ _ _⟩, ⟨lt_of_block hcf, lt_of_block hbox, lt_of_block hmap⟩, ⟨by omega, hbM, fun k k5 => by have := (hword k k5).1; omega⟩, Nat.le_refl _⟩
    have hbM2 := hide hbM
    replace hm13 := hide hm13
    replace hB01 := hide hB01
    clear hmap hnd hbox hword hap hm3 hcf hbM hB0
    replace hall := hide hall
    go_wp2_with fail
    obtain ⟨bc, hbc⟩ : ∃ bc, w1.heap.size = bc := ⟨_, rfl⟩
    rw [hbc] at hCM hB01 ⊢
    replace hbc := hide hbc
    go_loopw [33] (fun vi wr => ∃ (i : Nat) (st : St), i ≤ L.length ∧ vi = .int .i64 i ∧ CM w3.heap.size bc B0 bM b order st wr ∧ linesR L st0 = linesR (L.drop i) st ∧ st.1.srv.length ≤ 16 ∧ Mod (bc ≤ ·) w3 wr) (fun vi _ => L.length - (intOf vi).toNat)
    case atStart => exact ⟨0, st0, by omega, rfl, hCM.out, by simp, by simp [st0, cfg0], Mod.refl _ _⟩
    case round =>
      obtain ⟨i, st, hil, rfl, hC, hlin, h16, hm⟩ := hrel
      by_cases hlt : i < L.length
      · obtain ⟨⟨n, ws⟩, hx⟩ : ∃ x, L[i]? = some x := ⟨L[i], by simp [hlt]⟩
        obtain ⟨g, u, c, rfl, hx1, hx2, hx3⟩ := hcells.out i _ hx
        obtain ⟨q1, q2, q3, q4⟩ := hLe.out _ (List.mem_of_getElem? hx)
        have hdrop : L.drop i = (n, ws) :: L.drop (i + 1) := by
          rw [← List.getElem_cons_drop hlt]
          congr 1
          have := List.getElem?_eq_getElem hlt
          rw [hx] at this
          exact (Option.some.inj this).symm
        change 0 < ws.length at q2
        change ws.length ≤ l.length at q3
        obtain ⟨gw, cw, e1, -, hcw, hxw⟩ := hx3.open q2
        cases e1
        obtain ⟨cw, rfl⟩ : ∃ cw, cw = c := ⟨_, rfl⟩
        have hg : g < bc := by rw [← hbc.out]; exact lt_of_cell hx1
        have hgw : gw < bc := by rw [← hbc.out]; obtain ⟨s, hs⟩ : ∃ s, ws[0]? = some s := ⟨ws[0], by simp [q2]⟩; exact lt_of_cell (hxw 0 s hs)
        have hcm := hx3.cap
        have y1 : wr.cell? ⟨g, i * 2, none⟩ = some (.int .i64 n) := hm.cellAt (by omega) (hm13.out.cellAt id hx1)
        have y2 : wr.cell? ⟨g, i * 2 + 1, none⟩ = some (.slice (some ⟨gw, 0, none⟩) ws.length cw) := hm.cellAt (by omega) (hm13.out.cellAt id hx2)
        have hwa : Hid (WordsAt gw ws wr) := hide (fun j s hs => hm.cellAt (by omega) (hm13.out.cellAt id (hxw j s hs)))
        have hwb : w.heap.size < bc := by rw [← hbc.out]; exact lt_of_block hb.out
        have hmw2 : Hid (Mod NoB w wr) := hide ((hm1.out.trans hm13.out).into hm (fun b' h => Or.inr (by omega)))
        have hbr : Hid (wr.heap[w.heap.size]? = some (.cells #[.slice none 0 0, .int .i64 0, .int .i64 0, .int .i64 0, .int .i64 0, .int .i64 0] 24 (0, 0))) := hide (hm.heap (hm13.out.heap hb.out id) (by omega))
        have hline := fun (o : Obj) => line_any w3.heap.size bc B0 bM b order st ws gw cw (wr.alloc o) (hC.keep ((Mod.refl _ _).alloc _)) q2 (fun j s hs => ((Mod.refl NoB wr).alloc o).cellAt id (hwa.out j s hs)) hcw hcm (by omega) (fun s hs => by have := q4 s hs; omega) (hL.mod (hmw2.out.alloc _)) (by omega)
        obtain ⟨er, her⟩ : ∃ er, (lineR ws st).1 = er := ⟨_, rfl⟩
        unfold LineOut at hline
        rw [her] at hline
        have hi0 : (0 : Int) ≤ (i : Int) := by omega
        have hi1 : (i : Int) < (L.length : Int) := by omega
        replace hline := hide hline
        replace her := hide her
        replace hC := hide hC
        replace hlin := hide hlin
        replace h16 := hide h16
        replace hm := hide hm
        replace hx1 := hide hx1
        replace hx2 := hide hx2
        replace hx3 := hide hx3
        replace hx := hide hx
        replace hdrop := hide hdrop
        replace hcw := hide hcw
        replace hxw := hide hxw
        replace q4 := hide q4
        go_wp2_with fail
        refine (hline.out _).mono ?_
        rintro e w4 ⟨⟨rfl, hok, hbad⟩, hm4⟩
        by_cases he : er = 0
        · subst he
          have hC4 := hok rfl
          have hm4' := hm.out.trans (((Mod.refl _ _).alloc _).trans hm4)
          have h16' := line_srv her.out h16.out
          have hlin' : linesR L st0 = linesR (L.drop (i + 1)) (lineR ws st).2 := by rw [hlin.out, hdrop.out, linesR_ok her.out]
          replace hC4 := hide hC4
          replace hm4' := hide hm4'
          replace hlin' := hide hlin'
          replace h16' := hide h16'
          clear hok hbad hm4
          go_wp2_with fail
          go_roundw
          case rel => exact ⟨i + 1, (lineR ws st).2, by omega, by go_num, hC4.out, hlin'.out, h16'.out, hm4'.out⟩
          case measure => simp [intOf]; omega
        · have heb : (er != 0) = true := by simpa [bne_iff_ne] using he
          have hmb := hbad he
          have hxb : w4.heap[wr.heap.size]? = some (.cells #[.int .i64 n, .slice (some ⟨gw, 0, none⟩) ws.length cw] 58 (0, 0)) := hmb.heap (heap_alloc_new _ _) (by have := hC.out.size; omega)
          have x0 := cell_of_block hxb 0 (v := .int .i64 n) rfl
          have hb4 : w4.heap[w.heap.size]? = some (.cells #[.slice none 0 0, .int .i64 0, .int .i64 0, .int .i64 0, .int .i64 0, .int .i64 0] 24 (0, 0)) := hm4.heap (((Mod.refl NoB wr).alloc _).heap hbr.out id) (by omega)
          obtain ⟨b0, b1, b2, b3, b4, b5, f0, f1, f2, f3, f4, f5⟩ := six_of hb4
          obtain ⟨W6, hW6, hb6, hm6⟩ := set6 hb4 (.slice none 0 0) (.int .i64 0) (.int .i64 0) (.int .i64 0) (.int .i64 0) (.int .i64 0)
          have hne : w.heap.size ≠ wr.heap.size := by have := lt_of_block hbr.out; omega
          replace hW6 := hide hW6
          replace hb6 := hide hb6
          replace hb4 := hide hb4
          replace hxb := hide hxb
          replace hmb := hide hmb
          replace hm4 := hide hm4
          replace hm6 := hide hm6
          have hrr : Hid (r = (cfg0, (n : Int), er)) := hide (by
            rw [hr2.out, hlin.out, hdrop.out, linesR_bad (by rw [her.out]; exact he), endR_err (by show (lineR ws st).1 ≠ 0; rw [her.out]; exact he)]
            show (cfg0, (n : Int), (lineR ws st).1) = _
            rw [her.out])
          have hmf : Hid (Mod NoB w W6) := hide (((hmw2.out.alloc _).into hm4.out (fun b' h => Or.inr (by omega))).into hm6.out (fun b' e => Or.inr (by omega)))
          clear hok hbad
          go_wp2_with fail
          go_region_with ((fail))
          all_goals
            go_wp2
            rw [hW6.out]
            clear b0 b1 b2 b3 b4 b5 f0 f1 f2 f3 f4 f5
            obtain ⟨b0, b1, b2, b3, b4, b5, -⟩ := six_of hb6.out
            rw [hrr.out]
            refine bodyPost_ret (v := .tuple #[.agg #[.slice none 0 0, .int .i64 0, .int .i64 0, .int .i64 0, .int .i64 0, .int .i64 0], .int .i64 n, .int .i64 er]) (by simp [results, Tryz.results8, go_sem, b0, b1, b2, b3, b4, b5]) rfl ⟨.err, hmf.out.drew⟩
      · obtain rfl : i = L.length := by omega
        rw [List.drop_length] at hlin
        have hend : linesR L st0 = (0, 0, st) := hlin
        rw [hend] at hr2
        clear hlin hend
        have hwb : w.heap.size < bc := by rw [← hbc.out]; exact lt_of_block hb.out
        have hmw2 : Hid (Mod NoB w wr) := hide ((hm1.out.trans hm13.out).into hm (fun b' h => Or.inr (by omega)))
        have hbr : Hid (wr.heap[w.heap.size]? = some (.cells #[.slice none 0 0, .int .i64 0, .int .i64 0, .int .i64 0, .int .i64 0, .int .i64 0] 24 (0, 0))) := hide (hm.heap (hm13.out.heap hb.out id) (by omega))
        obtain ⟨wq, hwq⟩ : ∃ wq, wq = wr := ⟨_, rfl⟩
        rw [← hwq] at hC hbr hmw2 ⊢
        clear hwq hm
        have hmap := hC.map
        replace hC := hide hC
        obtain ⟨es, hes⟩ : ∃ es, (ents (fun k => at0c (b k) 0) order).toArray = es := ⟨_, rfl⟩
        have hold := ents_old (fun k => at0c (b k) 0) order
        have hnd := ents_nodup (fun k => at0c (b k) 0) order
        have hesm : Hid (∀ x ∈ es.toList, ∃ k, k < 5 ∧ x.val = at0c (b k) 0) := hide (by
          intro x hx
          rw [← hes] at hx
          obtain ⟨k, hk, _, h2⟩ := ents_mem (by simpa using hx)
          exact ⟨k, (hall.out k).1 hk, h2⟩)
        have hesk : Hid (∀ k, k < 5 → ∃ x ∈ es.toList, x.val = at0c (b k) 0) := hide (by
          intro k hk
          obtain ⟨x, h1, _, h2⟩ := ents_at (v := fun k => at0c (b k) 0) ((hall.out k).2 hk)
          rw [hes] at h1
          exact ⟨x, h1, h2⟩)
        rw [hes] at hmap hold hnd
        replace hmap := hide hmap
        replace hold := hide hold
        replace hnd := hide hnd
        clear hes
        go_wp2_with (at_range; refine wpList_range_raw rfl _ 55 rfl 9 60 Tryz.underlying55 bM es order.length rfl hmap.out hold.out hnd.out ?_; intro w5 hit5 hm5 hsz5)
        go_frame
        have hC5 := hide (hC.out.keep hm5)
        have hbase : w3.heap.size ≤ wq.heap.size := hC.out.size
        have hb5 := hide (hm5.heap hbr.out id)
        have hmw5 := hide (hmw2.out.trans hm5)
        have hword5 := hide (fun k k5 => (hC5.out.word k k5))
        obtain ⟨rit, hrit⟩ : ∃ rit, wq.heap.size = rit := ⟨_, rfl⟩
        rw [hrit] at hit5 hbase ⊢
        have hbwq : w.heap.size < rit := by rw [← hrit]; exact lt_of_block hbr.out
        have hwle : w.heap.size ≤ rit := by omega
        replace hrit := hide hrit
        replace hm5 := hide hm5
        replace hsz5 := hide hsz5
        replace hit5 := hide hit5
        go_loopw [14] (fun _ wr => ∃ seen, ItAt wr rit bM es order.length seen ∧ (∀ x ∈ es.toList, seen.contains x.born = true → ∃ k, k < 5 ∧ x.val = at0c (b k) 0 ∧ st.2 k = true) ∧ Mod (· = rit) w5 wr) (fun _ wr => itLeft wr bM rit)
        case atStart => exact ⟨#[], hit5.out, by simp, Mod.refl _ _⟩
        case round =>
          obtain ⟨seen, hit, hseen, hm⟩ := hrel
          replace hseen := hide hseen
          replace hm := hide hm
          go_wp2_with (at_next; refine wpList_next_raw rfl _ rfl rit bM es order.length seen rfl hit ?_ ?_)
          · intro hdone
            have hall5 : seenAll st.2 = true := seenAll_true (fun k k5 => by
              obtain ⟨x, hx, hv⟩ := hesk.out k k5
              obtain ⟨k', k5', hv', hs'⟩ := hseen.out x hx (by simpa using hdone x (by simpa using hx))
              have hbb : b k = b k' := by rw [hv] at hv'; simpa using hv'
              by_cases hkk : k = k'
              · rw [hkk]; exact hs'
              · exact absurd hbb (hC5.out.apart k k' k5 k5' hkk))
            obtain ⟨cv, hcb, hcown⟩ := hC.out.cfg
            obtain ⟨sp, sn, sc, rfl⟩ := own_slice hcown
            obtain ⟨rfl, hints, hge⟩ := own_ints hcown
            have hsc : st.1.srv.length ≤ sc := by
              rcases hcown.2 with ⟨h1, h2⟩ | ⟨g, cap', cur, hv, _, _, hc, _⟩
              · simp at h1; omega
              · simp at hv; omega
            have hlow := hC5.out.low
            have hb6 := hm.out.heap hb5.out (by omega)
            have hcb6 := hm.out.heap (hm5.out.heap hcb id) (by omega)
            have hnr : ∀ b' off, sp = some ⟨b', off, none⟩ → b' < rit := fun b' off e => by
              rcases hcown.2 with ⟨h1, h2⟩ | ⟨g, cap', cur, hv, _, hg, _⟩
              · simp at h1; rw [h1.1] at e; cases e
              · simp at hv; rw [hv.1] at e; cases e
                rw [← hrit.out]
                exact lt_of_block hg
            have hints6 : IntsL wr sp st.1.srv := (hints.mod0 hm5.out).mod hm.out (fun b' off e => by have := hnr b' off e; omega)
            have hge2 : ∀ b' off, sp = some ⟨b', off, none⟩ → w.heap.size ≤ b' := fun b' off e => by have := hge b' off e; omega
            have hchk := check_any sp st.1.srv sc st.1.q st.1.l st.1.m st.1.d st.1.s wr hints6 hsc (by omega)
            obtain ⟨c0, c1, c2, c3, c4, c5, -⟩ := six_of hcb6
            have hmr : Hid (Mod NoB w wr) := hide (hmw5.out.into hm.out (fun b' h => Or.inr (by omega)))
            have hr3 := hide (fun (he : checkC st.1 ≠ 0) => hr2.out.trans (endR_check (x := (0, 0, st)) rfl hall5 he))
            have hr4 := hide (fun (he : checkC st.1 = 0) => hr2.out.trans (endR_ok (x := (0, 0, st)) rfl hall5 he))
            have hce : checkR st.1.srv st.1.q st.1.l st.1.m st.1.d st.1.s = checkC st.1 := rfl
            rw [hce] at hchk
            obtain ⟨er, her⟩ : ∃ er, checkC st.1 = er := ⟨_, rfl⟩
            rw [her] at hr3 hr4 hchk
            replace hchk := hide hchk
            replace her := hide her
            replace hcown := hide hcown
            replace hints := hide hints
            replace hints6 := hide hints6
            replace hge := hide hge
            replace hge2 := hide hge2
            replace hnr := hide hnr
            replace hcb := hide hcb
            replace hcb6 := hide hcb6
            replace hb6 := hide hb6
            replace hall5 := hide hall5
            replace hlow := hide hlow
            replace hdone := hide hdone
            clear hce
            go_wp2_with fail
            refine hchk.out.mono ?_
            rintro e w7 ⟨rfl, hm7⟩
            have hb7 := hm7.heap hb6.out id
            have hcb7 := hm7.heap hcb6.out id
            clear c0 c1 c2 c3 c4 c5
            obtain ⟨c0, c1, c2, c3, c4, c5, -⟩ := six_of hcb7
            obtain ⟨b0, b1, b2, b3, b4, b5, f0, f1, f2, f3, f4, f5⟩ := six_of hb7
            have hmr7 := hide (hmr.out.trans hm7)
            have hints7 : Hid (IntsL w7 sp st.1.srv) := hide (hints6.out.mod0 hm7)
            replace hm7 := hide hm7
            replace hcb7 := hide hcb7
            by_cases he : er = 0
            · have heb : (er != 0) = false := by rw [he]; rfl
              obtain ⟨W6, hW6, hb8, hm8⟩ := set6 hb7 (.slice sp st.1.srv.length sc) (.int .i64 st.1.q) (.int .i64 st.1.l) (.int .i64 st.1.m) (.int .i64 st.1.d) (.int .i64 st.1.s)
              have hmf : Hid (Mod NoB w W6) := hide (hmr7.out.into hm8 (fun b' e => Or.inr (by omega)))
              have hints8 : Hid (IntsL W6 sp st.1.srv) := hide (hints7.out.mod hm8 (fun b' off e => by have := hge.out b' off e; have := hlow.out; omega))
              have hrr := hide (hr4.out he)
              replace hW6 := hide hW6
              replace hb8 := hide hb8
              replace hb7 := hide hb7
              clear hm8
              go_wp2
              rw [hW6.out]
              clear b0 b1 b2 b3 b4 b5 f0 f1 f2 f3 f4 f5
              obtain ⟨b0, b1, b2, b3, b4, b5, -⟩ := six_of hb8.out
              rw [hrr.out]
              refine bodyPost_ret (v := .tuple #[.agg #[.slice sp st.1.srv.length sc, .int .i64 st.1.q, .int .i64 st.1.l, .int .i64 st.1.m, .int .i64 st.1.d, .int .i64 st.1.s], .int .i64 0, .int .i64 0]) (by simp [results, Tryz.results8, go_sem, b0, b1, b2, b3, b4, b5]) rfl ⟨⟨sp, sc, rfl, hints8.out, hsc, hge2.out, h16⟩, hmf.out⟩
            · have heb : (er != 0) = true := by simpa [bne_iff_ne] using he
              obtain ⟨W6, hW6, hb8, hm8⟩ := set6 hb7 (.slice none 0 0) (.int .i64 0) (.int .i64 0) (.int .i64 0) (.int .i64 0) (.int .i64 0)
              have hmf : Hid (Mod NoB w W6) := hide (hmr7.out.into hm8 (fun b' e => Or.inr (by omega)))
              have hrr := hide (hr3.out he)
              replace hW6 := hide hW6
              replace hb8 := hide hb8
              replace hb7 := hide hb7
              clear hm8
              go_wp2
              rw [hW6.out]
              clear b0 b1 b2 b3 b4 b5 f0 f1 f2 f3 f4 f5
              obtain ⟨b0, b1, b2, b3, b4, b5, -⟩ := six_of hb8.out
              rw [hrr.out]
              refine bodyPost_ret (v := .tuple #[.agg #[.slice none 0 0, .int .i64 0, .int .i64 0, .int .i64 0, .int .i64 0, .int .i64 0], .int .i64 0, .int .i64 er]) (by simp [results, Tryz.results8, go_sem, b0, b1, b2, b3, b4, b5]) rfl ⟨.err, hmf.out⟩
          · intro e w6 hem hes6 hit6 hm6 hsz6 hlt6 hen6
            obtain ⟨k, k5, hval⟩ := hesm.out e (by simpa using hem)
            obtain ⟨f, hbk⟩ := (hword5.out k k5).at0 k5
            have hkb := (hword5.out k k5).1
            have hbk6 := hm6.heap (hm.out.heap hbk (by omega)) (by omega)
            have c2 := cell_of_block hbk6 2 (v := .bool (st.2 k)) rfl
            rw [hval] at hen6 ⊢
            have hm' : Hid (Mod (· = rit) w5 w6) := hide (hm.out.trans hm6)
            have hseen' : st.2 k = true → ∀ x ∈ es.toList, (seen.push e.born).contains x.born = true → ∃ k, k < 5 ∧ x.val = at0c (b k) 0 ∧ st.2 k = true := by
              intro hk x hx hc
              simp only [Array.contains_push, Bool.or_eq_true, beq_iff_eq] at hc
              rcases hc with hc | hc
              · exact hseen.out x hx hc
              · obtain rfl := born_inj hnd.out hx (by simpa using hem) (by first | exact hc | exact hc.symm)
                exact ⟨k, k5, hval, hk⟩
            replace hseen' := hide hseen'
            replace hbk := hide hbk
            replace hbk6 := hide hbk6
            replace hm6 := hide hm6
            replace hit6 := hide hit6
            replace hsz6 := hide hsz6
            replace hlt6 := hide hlt6
            cases hsn : st.2 k with
            | true =>
              go_wp2_with fail
              go_roundw
              case rel => exact ⟨_, hit6.out, hseen'.out hsn, hm'.out⟩
              case measure => exact hlt6.out
            | false =>
              have hb6 := hm'.out.heap hb5.out (by omega)
              have hrr : Hid (r = (cfg0, (0 : Int), 13)) := hide (by rw [hr2.out]; exact endR_lack rfl (seenAll_false k5 hsn))
              obtain ⟨b0, b1, b2, b3, b4, b5, f0, f1, f2, f3, f4, f5⟩ := six_of hb6
              obtain ⟨W6, hW6, hb7, hm7⟩ := set6 hb6 (.slice none 0 0) (.int .i64 0) (.int .i64 0) (.int .i64 0) (.int .i64 0) (.int .i64 0)
              have hmf : Hid (Mod NoB w W6) := hide ((hmw5.out.into hm'.out (fun b' h => Or.inr (by omega))).into hm7 (fun b' e => Or.inr (by omega)))
              replace hW6 := hide hW6
              replace hb7 := hide hb7
              replace hb6 := hide hb6
              clear hm7
              go_wp2
              rw [hW6.out]
              clear b0 b1 b2 b3 b4 b5 f0 f1 f2 f3 f4 f5
              obtain ⟨b0, b1, b2, b3, b4, b5, -⟩ := six_of hb7.out
              rw [hrr.out]
              refine bodyPost_ret (v := .tuple #[.agg #[.slice none 0 0, .int .i64 0, .int .i64 0, .int .i64 0, .int .i64 0, .int .i64 0], .int .i64 0, .int .i64 13]) (by simp [results, Tryz.results8, go_sem, b0, b1, b2, b3, b4, b5]) rfl ⟨.err, hmf.out⟩
/-- conf.Parse. -/
theorem parse_any (l : List UInt8) (h2 : l.length ≤ 9223372036854775807) (w : World) (hL : LaidN w) :
    Calls Tryz.prog 8 #[.string (bs l)] w fun e w' => ParseOut (parseR l) w e w' ∧ Mod NoB w w' := by
  by_cases hl : 65536 < l.length
  · exact parse_long l hl h2 w
  · exact parse_lines l (by omega) w hL
end Go.Proofs.YtdcmjjinmnbaoaaGreatDoor
