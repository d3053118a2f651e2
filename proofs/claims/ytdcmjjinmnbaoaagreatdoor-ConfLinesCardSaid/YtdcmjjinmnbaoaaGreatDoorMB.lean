/- Package lex: what it asks of a line's bytes. strings.SplitSeq at a separator of one byte: what its iterator does; a range over it. strings.Cut at a separator of one byte. The lines of a text: plain Lean. lex.Lines. The document's answer of chapter 5: its texts between a byte. The document's answer of chapter 5: the words of a line. The document's answer of chapter 5: the lines of a text. Rows of lines: their cells. The document's example of chapter 5. Chapter 5's rows: what their list gives; a text handed in. A text of one word. A remark behind a line; words' lengths. Two texts, with a byte 10 between: their lines. Decimal words: plain Lean. lex.Number, and the document's. lex.Text, and the document's. Numbers and their texts; what the rows of numbers list. Lines that are built of words and blanks: plain Lean. -/
import Derived.Test.YtdcmjjinmnbaoaaGreatDoorMA
import Derived.Lib.OthersKept
import Derived.Test.YtdcmjjinmnbaoaaGreatDoorShelf
import Derived.RangeFuncNested
import Derived.RangeFuncBound
import Derived.RangeFuncCalls
import Derived.RangeFuncLeaves
import Derived.Shelf.Abstract
import Derived.Shelf.RegionOpen
import Derived.WalkKit
import Derived.OwnWalkIn
import Derived.TacticsInMore
import Derived.LoopNIn
import Derived.LoopIn
import Derived.Maps.AppendAt
import Derived.Test.YtdcmjjinmnbaoaaGreatDoorCards
import Derived.Test.YtdcmjjinmnbaoaaGreatDoorTie
import Derived.Lay
import Derived.Deep.DeepWitnessRowRef
import Derived.ChangeMaps5
import Derived.Lib.Repeat
import Derived.Shelf.Strings.SlTrimAscii
import Derived.Lib.AtoiAllCases
import Derived.Laws.BytesArg
namespace Go.Proofs.YtdcmjjinmnbaoaaGreatDoor
open Go.RowKit

/-- A byte that may stand alone. -/
def okB (b : UInt8) : Bool := b == 9 || (decide (32 ≤ b.toNat) && decide (b.toNat ≤ 126))

theorem decode_high (s : ByteArray) (p : Nat) (h : p < s.size) (hb : ¬ (s[p]'h).toNat < 128) : 126 < (Utf8.decode s p).1 := by
  have hg : s.get! (p + 0) = s[p]'h := by
    simp [ByteArray.get!, h]
    rfl
  unfold Utf8.decode
  simp only [hg]
  rw [if_neg (by omega)]
  have hr : 126 < Utf8.runeError := by decide
  split
  · split
    · show 126 < _; omega
    · exact hr
  · split
    · split
      · rename_i h1; simp only [Bool.and_eq_true, decide_eq_true_eq] at h1; show 126 < _; omega
      · exact hr
    · split
      · split
        · rename_i h1; simp only [Bool.and_eq_true, decide_eq_true_eq] at h1; show 126 < _; omega
        · exact hr
      · exact hr

theorem Mod.iterAt {S : Nat → Prop} {a w : World} (h : Mod S a w) {k : Nat} (hk : S k ∨ a.heap.size ≤ k) (s : ByteArray) (p : Nat) : Mod S a (w.iterAt k s p) :=
  ⟨h.os, h.tape, h.output, by rw [Lib.iterAt_size]; exact h.size, fun j hj hn => by
    rw [Lib.iterAt_other w k j s p (fun e => by subst e; rcases hk with hk | hk; exact hn hk; omega)]
    exact h.block j hj hn⟩

theorem okB_eq (b : UInt8) : okB b = (decide (b.toNat = 9) || (decide (32 ≤ b.toNat) && decide (b.toNat ≤ 126))) := by
  unfold okB
  congr 1
  by_cases h : b = 9
  · subst h; rfl
  · have h2 : ¬ b.toNat = 9 := fun e => h (UInt8.toNat_inj.mp e)
    simp [h, h2]
theorem all_false {l : List UInt8} {k : Nat} {b : UInt8} {q : UInt8 → Bool} (h : l[k]? = some b) (hb : q b = false) : l.all q = false := by
  rw [List.all_eq_false]
  exact ⟨b, List.mem_of_getElem? h, by simp [hb]⟩
theorem iterPos_of {w : World} {k : Nat} {s : ByteArray} {p : Nat} (h : w.heap[k]? = some (.stringIter s p)) : w.iterPos k = p := by simp [World.iterPos, h]

set_option maxHeartbeats 4000000 in
theorem plain_any (s : ByteArray) (w : World) :
    Calls Tryz.prog 34 #[.string s] w fun e w' => e = .returned (.bool (s.data.toList.all okB)) ∧ Mod NoB w w' := by
  obtain ⟨vb, hvb⟩ : ∃ v, s.data.toList.all okB = v := ⟨_, rfl⟩
  rw [hvb]
  replace hvb := hide hvb
  go_enter Tryz.func34, Tryz.ntmps34
  go_wp2_with fail
  go_loopw [] (fun wr => ∃ k : Nat, k ≤ s.size ∧ (s.data.toList.take k).all okB = true ∧ wr.heap[w.heap.size]? = some (.stringIter s k) ∧ Mod NoB w wr) (fun wr => s.size - wr.iterPos w.heap.size)
  case atStart =>
    refine ⟨0, by omega, by simp, ?_, (Mod.refl _ _).alloc _⟩
    exact World.iter_heap w s 0
  case round =>
    obtain ⟨k, hk, hall, hit, hm⟩ := hrel
    replace hall := hide hall
    have hpos : wr.iterPos w.heap.size = k := by simp [World.iterPos, hit]
    by_cases hp : k < s.size
    · obtain ⟨b, hb⟩ : ∃ b, s[k]'hp = b := ⟨_, rfl⟩
      have hl : s.data.toList[k]? = some b := by
        rw [← hb]
        simp [hp]
        rfl
      have hm2 : Mod NoB w (wr.iterAt w.heap.size s (k + (Utf8.decode s k).2)) := hm.iterAt (Or.inr (Nat.le_refl _)) _ _
      by_cases ha : b.toNat < 128
      · rw [decode_ascii s k hp (by rw [hb]; exact ha), hb] at hm2
        have hnx : ∀ ty, (Instr.next (.pointer (some ⟨w.heap.size, 0, none⟩)) true ty).run Tryz.prog wr = .ok (.tuple #[.bool true, .int .i64 k, .int .i32 (b.toNat : Nat)]) (wr.iterAt w.heap.size s (k + 1)) := fun ty => by
          have := Lib.run_next_ascii_at (P := Tryz.prog) wr w.heap.size s k ty hit hp (by rw [hb]; exact ha)
          rw [hb] at this
          exact this
        have hit2 := Lib.iterAt_heap wr w.heap.size s k (k + 1) hit
        have hpos2 := iterPos_of hit2
        have htk : (s.data.toList.take (k + 1)).all okB = okB b := by
          rw [List.take_add_one, hl]
          simp [List.all_append, hall.out]
        have hok : okB b = (decide (b.toNat = 9) || (decide (32 ≤ b.toNat) && decide (b.toNat ≤ 126))) := okB_eq b
        have hno : okB b = false → vb = false := fun h => by rw [← hvb.out]; exact all_false hl h
        generalize okB b = ob at htk hok hno
        generalize b.toNat = m at hnx ha hok
        replace htk := hide htk
        replace hno := hide hno
        replace hm2 := hide hm2
        replace hit2 := hide hit2
        replace hpos2 := hide hpos2
        by_cases h9 : m = 9
        · subst h9
          replace hok : Hid (ob = true) := hide (by rw [hok]; rfl)
          go_wp2
          go_roundw
          case rel => exact ⟨k + 1, by omega, by rw [htk.out, hok.out], hit2.out, hm2.out⟩
          case measure => rw [hpos2.out, hpos]; omega
        · have hm9 : ((m : Int) != 9) = true := by simp; omega
          by_cases h32 : m < 32
          · replace hok : Hid (ob = false) := hide (by rw [hok]; simp; omega)
            go_wp2
            go_ret
            exact ⟨bool_ret (hno.out hok.out).symm, hm2.out⟩
          · by_cases h126 : 126 < m
            · replace hok : Hid (ob = false) := hide (by rw [hok]; simp; omega)
              go_wp2
              all_goals first
                | (exfalso; omega)
                | (go_ret; exact ⟨bool_ret (hno.out hok.out).symm, hm2.out⟩)
            · replace hok : Hid (ob = true) := hide (by rw [hok]; simp; omega)
              go_wp2
              go_roundw
              case rel => exact ⟨k + 1, by omega, by rw [htk.out, hok.out], hit2.out, hm2.out⟩
              case measure => rw [hpos2.out, hpos]; omega
      · have hnx : ∀ ty, (Instr.next (.pointer (some ⟨w.heap.size, 0, none⟩)) true ty).run Tryz.prog wr = _ := fun ty => Lib.run_next_any_at wr w.heap.size s k ty hit hp
        have hd := decode_high s k hp (by rw [hb]; exact ha)
        have hno : vb = false := by rw [← hvb.out]; exact all_false hl (by rw [okB_eq]; simp; omega)
        generalize (Utf8.decode s k).1 = r at hnx hd
        replace hno := hide hno
        replace hm2 := hide hm2
        clear hb hl ha
        have h9 : ¬ r = 9 := by omega
        have hm9 : ((r : Int) != 9) = true := by simp; omega
        have h32 : ¬ r < 32 := by omega
        go_wp2
        all_goals first
          | (exfalso; omega)
          | (go_ret; exact ⟨bool_ret hno.out.symm, hm2.out⟩)
    · have hnx : ∀ ty, (Instr.next (.pointer (some ⟨w.heap.size, 0, none⟩)) true ty).run Tryz.prog wr = _ := fun ty => Lib.run_next_end_at wr w.heap.size s k ty hit hp
      obtain rfl : k = s.size := by omega
      have hall2 : vb = true := by
        rw [← hvb.out]
        have h := hall.out
        rwa [List.take_of_length_le (by simp)] at h
      replace hall2 := hide hall2
      replace hm := hide hm
      go_wp2
      go_ret
      exact ⟨bool_ret hall2.out.symm, hm.out⟩
end Go.Proofs.YtdcmjjinmnbaoaaGreatDoor
namespace Go.Proofs.YtdcmjjinmnbaoaaGreatDoor
open Go.RowKit Go.Shelf
attribute [local go_sem] Oper.semAt_some

abbrev bs (l : List UInt8) : ByteArray := ⟨l.toArray⟩

/-- The parts of a text between bytes c, one after another: what is left ahead of part k, and the part. -/
structure Parts (c : UInt8) (N : Nat) (rest part : Nat → List UInt8) : Prop where
  pos : 0 < N
  len : ∀ k, k < N → (rest k).length ≤ 9223372036854775807
  mid : ∀ k, k + 1 < N → Lib.indexByte (rest k) c = (part k).length ∧ (part k).length < (rest k).length ∧ part k = (rest k).take (part k).length ∧ rest (k + 1) = (rest k).drop ((part k).length + 1)
  last : Lib.indexByte (rest (N - 1)) c = -1 ∧ part (N - 1) = rest (N - 1)

/-- The iterator's own cells. -/
structure SplitAt (c : UInt8) (Bs Bp Bv : Nat) (r : List UInt8) (W : World) : Prop where
  s : W.cell? ⟨Bs, 0, none⟩ = some (.string (bs r))
  sf : W.frozen? ⟨Bs, 0, none⟩ = false
  p : W.cell? ⟨Bp, 0, none⟩ = some (.string ⟨#[c]⟩)
  v : W.cell? ⟨Bv, 0, none⟩ = some (.int .i64 0)

theorem bs_take (l : List UInt8) (n : Nat) : (bs l).extract 0 n = bs (l.take n) := by
  apply ByteArray.ext
  simp [ByteArray.data_extract]
theorem bs_drop (l : List UInt8) (n : Nat) : (bs l).extract n l.length = bs (l.drop n) := by
  apply ByteArray.ext
  simp [ByteArray.data_extract, List.take_of_length_le]

/-- How much is left. -/
def leftOf (Bs : Nat) (W : World) : Nat := match W.cell? ⟨Bs, 0, none⟩ with
  | some (.string s) => s.size
  | _ => 0
theorem leftOf_of {Bs : Nat} {W : World} {l : List UInt8} (h : W.cell? ⟨Bs, 0, none⟩ = some (.string (bs l))) : leftOf Bs W = l.length := by
  simp only [leftOf, h]; rfl

set_option maxHeartbeats 4000000 in
theorem splitIter (n : Nat) (c : UInt8) (Bs Bp Bv N : Nat) (rest part : Nat → List UInt8) (hP : Parts c N rest part) (l : Nat) (J M : Nat → World → Prop) (X : World → Prop) (W : World)
    (hJ : ∀ k W, J k W → SplitAt c Bs Bp Bv (rest k) W) (hM : ∀ k W, M k W → SplitAt c Bs Bp Bv (rest k) W)
    (hnext : ∀ k W, k + 1 < N → M k W → J (k + 1) (W.setCell ⟨Bs, 0, none⟩ (.string (bs (rest (k + 1))))))
    (hY : ∀ k W, k < N → J k W → YieldAt Fence.wide (n - 1) Tryz.prog l #[.string (bs (part k))] W fun e W' => (e = .returned (.bool true) ∧ M k W') ∨ (e = .returned (.bool false) ∧ X W'))
    (h0 : J 0 W) :
    CallsIn Fence.wide n Tryz.prog 61 #[.func (.yield l) #[] #[], .pointer (some ⟨Bp, 0, none⟩), .pointer (some ⟨Bs, 0, none⟩), .pointer (some ⟨Bv, 0, none⟩)] W
      fun e W' => (∃ v, e = .returned v) ∧ (M (N - 1) W' ∨ X W') := by
  refine callsIn_of_wp Tryz.func61 rfl trivial ?_ rfl
  simp only [Tryz.ntmps61, List.size_toArray, List.length_cons, List.length_nil, Nat.reduceAdd, Nat.reduceSub, Array.replicate_succ, Array.replicate_zero, List.push_toArray, List.append_toArray, List.nil_append, List.cons_append]
  have hc := (hJ 0 W h0).p
  gi_wp2
  clear hc
  gi_loopw [] (fun wr => ∃ k, k < N ∧ J k wr) (fun wr => leftOf Bs wr)
  case atStart => exact ⟨0, hP.pos, h0⟩
  case round =>
    obtain ⟨k, hk, hJk⟩ := hrel
    obtain ⟨c1, c2, c3, c4⟩ := hJ k wr hJk
    have hlen := hP.len k hk
    have hlo := hide (leftOf_of c1)
    obtain ⟨fn, tmps, assign, body, hy, hR⟩ := hY k wr hk hJk
    have hix0 := Tryz.strings_Index_one (bs (rest k)) c wr
    replace hJk := hide hJk
    by_cases hmid : k + 1 < N
    · obtain ⟨h1, h2, h3, h4⟩ := hP.mid k hmid
      have hix : Calls Tryz.prog 30 #[.string (bs (rest k)), .string ⟨#[c]⟩] wr fun e w' => e = .returned (.int .i64 ((part k).length : Nat)) ∧ w' = wr := by
        rw [← h1]; exact hix0
      clear hix0
      replace hix := hide hix
      replace h1 := hide h1
      replace h3 := hide h3
      replace h4 := hide h4
      gi_wp2_with fail
      refine ⟨trivial, fun h => (by cases h), (callsIn_wide.2 hix.out).mono ?_⟩
      rintro e w' ⟨rfl, rfl⟩
      have hex : (bs (rest k)).extract 0 (part k).length = bs (part k) := by rw [bs_take, ← h3.out]
      have hex2 : (bs (rest k)).extract ((part k).length + 1) (rest k).length = bs (rest (k + 1)) := by rw [h4.out, bs_drop]
      gi_wp2
      refine ⟨fun h => (by cases h), hR.mono ?_⟩
      rintro e W2 (⟨rfl, hM2⟩ | ⟨rfl, hX2⟩)
      · obtain ⟨d1, d2, d3, d4⟩ := hM k W2 hM2
        have hn2 := hnext k W2 hmid hM2
        have hlo2 := hide (leftOf_of ((hJ _ _ hn2).s))
        have hll : Hid ((rest (k + 1)).length < (rest k).length) := by rw [h4.out]; refine hide ?_; simp; omega
        replace hM2 := hide hM2
        replace hn2 := hide hn2
        gi_wp2
        go_roundw
        case rel => exact ⟨k + 1, hmid, hn2.out⟩
        case measure => rw [hlo2.out, hlo.out]; exact hll.out
      · gi_wp2
        refine bodyPost_ret (results_none rfl _ _ _) rfl ?_
        exact ⟨⟨_, rfl⟩, .inr hX2⟩
    · obtain ⟨g1, g2⟩ := hP.last
      obtain rfl : k = N - 1 := by omega
      have hix : Calls Tryz.prog 30 #[.string (bs (rest (N - 1))), .string ⟨#[c]⟩] wr fun e w' => e = .returned (.int .i64 (-1)) ∧ w' = wr := by
        rw [← g1]; exact hix0
      clear hix0
      replace hix := hide hix
      rw [g2] at hy
      replace g1 := hide g1
      replace g2 := hide g2
      gi_wp2_with fail
      refine ⟨trivial, fun h => (by cases h), (callsIn_wide.2 hix.out).mono ?_⟩
      rintro e w' ⟨rfl, rfl⟩
      gi_wp2
      refine ⟨fun h => (by cases h), hR.mono ?_⟩
      rintro e W2 (⟨rfl, hM2⟩ | ⟨rfl, hX2⟩)
      · gi_wp2
        go_end0
        exact ⟨⟨_, rfl⟩, .inl hM2⟩
      · gi_wp2
        go_end0
        exact ⟨⟨_, rfl⟩, .inr hX2⟩

/-- What is asked of a round's end: it goes on, or it leaves by a return. D, D + 1: the loop's own two blocks. -/
def roundOut (D : Nat) (M X : World → Prop) (W : World) : Exit → Act → World → Prop
  | .normal, _, W' => (∀ b, D ≤ b → b ≤ D + 1 → W'.heap[b]? = W.heap[b]?) ∧ M W'
  | .ret, _, W' => (∀ b, D ≤ b → b ≤ D + 1 → W'.heap[b]? = W.heap[b]?) ∧ X W'
  | _, _, _ => False

/-- What holds whatever stands in the loop's own two blocks. -/
def Apart (D : Nat) (J : World → Prop) : Prop := ∀ W b o, D ≤ b → b ≤ D + 1 → J W → J (W.putObj b o)

set_option maxHeartbeats 2000000 in
/-- 'for x := range strings.SplitSeq(s, c)', outermost. -/
theorem rangeSplit (n : Nat) (c : UInt8) (Bs Bp Bv N : Nat) (rest part : Nat → List UInt8) (hP : Parts c N rest part) {g : Operand} {ps : Array Tmp} {assign body : Code} {Q : Exit → Act → World → Prop} {a : Act} {w : World}
    (hg : a.eval g = .func (.func 61) #[] #[.pointer (some ⟨Bp, 0, none⟩), .pointer (some ⟨Bs, 0, none⟩), .pointer (some ⟨Bv, 0, none⟩)])
    (hps : ps.size = 1) (J M : Nat → World → Prop) (X : World → Prop) (hJa : ∀ k, Apart w.heap.size (J k)) (hMa : ∀ k, Apart w.heap.size (M k)) (hXa : Apart w.heap.size X)
    (hB : Bs < w.heap.size)
    (hJ : ∀ k W, J k W → SplitAt c Bs Bp Bv (rest k) W) (hM : ∀ k W, M k W → SplitAt c Bs Bp Bv (rest k) W)
    (hnext : ∀ k W, k + 1 < N → M k W → J (k + 1) (W.setCell ⟨Bs, 0, none⟩ (.string (bs (rest (k + 1))))))
    (h0 : ∀ o o', J 0 ((w.alloc o).alloc o')) (a₁ : Nat → Act)
    (hassign : ∀ (l k : Nat) (W : World) (K : Act → World → Prop), K (a₁ k) W →
      assign.wpIn (Fence.wide.inRound l) (n - 1 - 1) Tryz.prog (Exit.then K (fun _ _ _ => False)) { tmps := (ps.zip #[.string (bs (part k))]).foldl (fun t (p, v) => t.setIfInBounds p v) a.tmps, defers := [] } W)
    (hbody : ∀ (l k : Nat) (W : World), k < N → w.heap.size + 1 < W.heap.size → J k W → body.wpIn (Fence.wide.inRound l) (n - 1 - 1) Tryz.prog (roundOut w.heap.size (M k) X W) (a₁ k) W)
    (hdone : ∀ W, M (N - 1) W → W.heap[w.heap.size]? = some (.deferred (some [])) → Q .normal { a with defers := { target := .collected w.heap.size, args := #[] } :: a.defers } W)
    (hstop : ∀ W, X W → W.heap[w.heap.size]? = some (.deferred (some [])) → Code.ret.wpIn Fence.wide n Tryz.prog Q { a with defers := { target := .collected w.heap.size, args := #[] } :: a.defers } W) :
    (Code.rangeFunc g ps assign body).wpIn Fence.wide n Tryz.prog Q a w := by
  refine wpIn_rangeFunc ?_
  intro fn hfn
  obtain ⟨rec, hrec⟩ : ∃ rec : LoopState → Option Code → Loop, rec = fun st pe => { state := st, pending := pe, fn, tmps := a.tmps, params := ps, assign, body, defers := w.heap.size } := ⟨_, rfl⟩
  obtain ⟨W1, hW1⟩ : ∃ W1, (w.alloc (.deferred (some []))).alloc (.loop (rec .ready none)) = W1 := ⟨_, rfl⟩
  have hL1 : W1.heap[w.heap.size + 1]? = some (.loop (rec .ready none)) := by
    rw [← hW1]
    have := heap_alloc_new (w.alloc (.deferred (some []))) (.loop (rec .ready none))
    rwa [World.size_alloc] at this
  have hD1 : W1.heap[w.heap.size]? = some (.deferred (some [])) := by
    rw [← hW1, heap_alloc_old (by simp)]
    exact heap_alloc_new w _
  refine ⟨w.heap.size + 1, [{ target := .collected w.heap.size, args := #[] }], W1, { target := .fn (.func 61) #[.pointer (some ⟨Bp, 0, none⟩), .pointer (some ⟨Bs, 0, none⟩), .pointer (some ⟨Bv, 0, none⟩)], args := #[.func (.yield (w.heap.size + 1)) #[] #[]] }, W1, 61,
    #[.func (.yield (w.heap.size + 1)) #[] #[]] ++ #[.pointer (some ⟨Bp, 0, none⟩), .pointer (some ⟨Bs, 0, none⟩), .pointer (some ⟨Bv, 0, none⟩)], W1, ?_, ?_, ?_, ?_, fun h => (by cases h), ?_⟩
  · rw [← hW1, hrec]
    exact run_enterLoop_outer _ _ _ _ _
  · simp only [resolve, hg]
    simp [go_sem]
  · intro f' hf'
    exact trivial
  · simp [invoke, go_sem]
  · refine (splitIter (n - 1) c Bs Bp Bv N rest part hP (w.heap.size + 1)
      (fun k W => J k W ∧ W.heap[w.heap.size + 1]? = some (.loop (rec .ready none)) ∧ W.heap[w.heap.size]? = some (.deferred (some [])))
      (fun k W => M k W ∧ W.heap[w.heap.size + 1]? = some (.loop (rec .ready none)) ∧ W.heap[w.heap.size]? = some (.deferred (some [])))
      (fun W => X W ∧ W.heap[w.heap.size + 1]? = some (.loop (rec .done (some .ret))) ∧ W.heap[w.heap.size]? = some (.deferred (some [])))
      W1 (fun k W h => hJ k W h.1) (fun k W h => hM k W h.1) ?_ ?_ ⟨by rw [← hW1]; exact h0 _ _, hL1, hD1⟩).mono ?_
    · rintro k W hk ⟨h1, h2, h3⟩
      exact ⟨hnext k W hk h1, (heap_setCell_ne (by show w.heap.size + 1 ≠ Bs; omega) _).trans h2, (heap_setCell_ne (by show w.heap.size ≠ Bs; omega) _).trans h3⟩
    · rintro k W hk ⟨h1, h2, h3⟩
      have hlt : w.heap.size + 1 < W.heap.size := lt_of_block h2
      have hy := run_yield (P := Tryz.prog) (args := #[.string (bs (part k))]) h2 (by rw [hrec]; exact hps.symm)
      rw [hrec] at hy
      refine ⟨fn, _, assign, body, hy, roundIn_of_wpIn hfn (hassign _ k W _ ⟨_, run_beginRound h2 (by rw [hrec]), ?_⟩)⟩
      have hb2 : (W.putObj (w.heap.size + 1) (.loop { rec .ready none with state := .busy })).heap[w.heap.size + 1]? = some (.loop { rec .ready none with state := .busy }) := World.putObj_heap_same hlt
      have hb3 : (W.putObj (w.heap.size + 1) (.loop { rec .ready none with state := .busy })).heap[w.heap.size]? = some (.deferred (some [])) := (World.putObj_heap_other (by omega)).trans h3
      refine wpIn_mono (hbody _ k _ hk (by rw [World.putObj_size]; exact hlt) (hJa k _ _ _ (by omega) (by omega) h1)) ?_
      intro e a3 W3 hp
      cases e with
      | normal =>
        obtain ⟨hkeep, hm3⟩ := hp
        have hl3 := (hkeep _ (by omega) (by omega)).trans hb2
        have hd3 := (hkeep _ (by omega) (by omega)).trans hb3
        have he := run_endRound (P := Tryz.prog) none hl3
        refine ⟨_, _, he, .inl ⟨rfl, hMa k _ _ _ (by omega) (by omega) hm3, ?_, (World.putObj_heap_other (by omega)).trans hd3⟩⟩
        rw [hrec]
        exact World.putObj_heap_same (lt_of_block hl3)
      | ret =>
        obtain ⟨hkeep, hm3⟩ := hp
        have hl3 := (hkeep _ (by omega) (by omega)).trans hb2
        have hd3 := (hkeep _ (by omega) (by omega)).trans hb3
        have he := run_endRound (P := Tryz.prog) (some .ret) hl3
        refine ⟨_, _, he, .inr ⟨rfl, hXa _ _ _ (by omega) (by omega) hm3, ?_, (World.putObj_heap_other (by omega)).trans hd3⟩⟩
        rw [hrec]
        exact World.putObj_heap_same (lt_of_block hl3)
      | exit id => exact hp.elim
      | goto t => exact hp.elim
      | panic ch => exact hp.elim
      | outgrown => exact hp.elim
    · rintro e W2 ⟨⟨v, rfl⟩, (⟨h1, h2, h3⟩ | ⟨h1, h2, h3⟩)⟩
      · have he := run_endLoop (P := Tryz.prog) h2 (by rw [hrec]; simp)
        exact ⟨_, _, he, by rw [hrec]; exact hdone _ (hMa _ _ _ _ (by omega) (by omega) h1) ((World.putObj_heap_other (by omega)).trans h3)⟩
      · have he := run_endLoop (P := Tryz.prog) h2 (by rw [hrec]; simp)
        exact ⟨_, _, he, by rw [hrec]; exact hstop _ (hXa _ _ _ (by omega) (by omega) h1) ((World.putObj_heap_other (by omega)).trans h3)⟩

theorem splitSeq_any (s sep : ByteArray) (w : World) :
    Calls Tryz.prog 32 #[.string s, .string sep] w fun e w' =>
      e = .returned (.func (.func 61) #[] #[.pointer (some ⟨w.heap.size + 1, 0, none⟩), .pointer (some ⟨w.heap.size, 0, none⟩), .pointer (some ⟨w.heap.size + 1 + 1, 0, none⟩)]) ∧
      w' = ((w.alloc (.cells #[.string s] 9)).alloc (.cells #[.string sep] 9)).alloc (.cells #[.int .i64 0] 3) := by
  have hin : Calls Tryz.prog 48 #[.string s, .string sep, .int .i64 0] w fun e w' =>
      e = .returned (.func (.func 61) #[] #[.pointer (some ⟨w.heap.size + 1, 0, none⟩), .pointer (some ⟨w.heap.size, 0, none⟩), .pointer (some ⟨w.heap.size + 1 + 1, 0, none⟩)]) ∧
      w' = ((w.alloc (.cells #[.string s] 9)).alloc (.cells #[.string sep] 9)).alloc (.cells #[.int .i64 0] 3) := by
    go_enter Tryz.func48, Tryz.ntmps48
    go_wp2
    go_ret
    exact ⟨rfl, rfl⟩
  replace hin := hide hin
  go_enter Tryz.func32, Tryz.ntmps32
  go_wp2_with fail
  refine hin.out.mono ?_
  rintro e w' ⟨rfl, rfl⟩
  go_wp2
  go_ret
  exact ⟨rfl, rfl⟩

end Go.Proofs.YtdcmjjinmnbaoaaGreatDoor
namespace Go.Proofs.YtdcmjjinmnbaoaaGreatDoor
open Go.RowKit

/-- What stands ahead of the first c. -/
def upTo (l : List UInt8) (c : UInt8) : List UInt8 := l.takeWhile (· != c)

/-- Where the first c stands. -/
theorem index_upTo (l : List UInt8) (c : UInt8) : Lib.indexByte l c = if c ∈ l then ((upTo l c).length : Int) else -1 := by
  induction l with
  | nil => simp [Lib.indexByte]
  | cons b l ih =>
    unfold Lib.indexByte
    by_cases hb : b = c
    · subst hb; simp [upTo]
    · have h1 : (b == c) = false := by simpa using hb
      have h2 : (b != c) = true := by simpa using hb
      rw [h1, ih]
      by_cases hm : c ∈ l
      · have : ¬ ((upTo l c).length : Int) = -1 := by omega
        simp [hm, upTo, h2]
      · have h3 : ¬ c = b := fun e => hb e.symm
        simp [hm, h3]
theorem upTo_all {l : List UInt8} {c : UInt8} (h : c ∉ l) : upTo l c = l := by
  induction l with
  | nil => rfl
  | cons b l ih =>
    have h1 : (b != c) = true := by simp; intro e; subst e; exact h (by simp)
    unfold upTo
    rw [List.takeWhile_cons, if_pos h1]
    congr 1
    exact ih (fun hm => h (by simp [hm]))
theorem upTo_not (l : List UInt8) (c : UInt8) : c ∉ upTo l c := by
  induction l with
  | nil => simp [upTo]
  | cons b l ih =>
    unfold upTo
    rw [List.takeWhile_cons]
    split
    · rename_i h1
      intro hm
      rcases List.mem_cons.mp hm with e | e
      · subst e; simp at h1
      · exact ih e
    · simp
theorem upTo_le (l : List UInt8) (c : UInt8) : (upTo l c).length ≤ l.length := (List.takeWhile_sublist _).length_le
theorem upTo_take (l : List UInt8) (c : UInt8) : upTo l c = l.take (upTo l c).length := by
  have := List.takeWhile_prefix (p := (· != c)) (l := l)
  exact List.prefix_iff_eq_take.mp this
theorem upTo_lt {l : List UInt8} {c : UInt8} (h : c ∈ l) : (upTo l c).length < l.length := by
  rcases Nat.lt_or_ge (upTo l c).length l.length with h1 | h1
  · exact h1
  · exfalso
    have h2 := upTo_take l c
    rw [List.take_of_length_le h1] at h2
    rw [← h2] at h
    exact upTo_not l c h

set_option maxHeartbeats 4000000 in
theorem cutIn_any (l : List UInt8) (c : UInt8) (w : World) (hl : l.length ≤ 9223372036854775806) :
    Calls Tryz.prog 49 #[.string (bs l), .string ⟨#[c]⟩] w fun e w' => ∃ u v, e = .returned (.tuple #[.string (bs (upTo l c)), u, v]) ∧ Mod NoB w w' := by
  have hix0 := Tryz.stringslite_Index_one (bs l) c w
  by_cases hc : c ∈ l
  · have hix : Calls Tryz.prog 47 #[.string (bs l), .string ⟨#[c]⟩] w fun e w' => e = .returned (.int .i64 ((upTo l c).length : Nat)) ∧ w' = w := by
      have := index_upTo l c
      rw [if_pos hc] at this
      rw [← this]; exact hix0
    have hlt := upTo_lt hc
    have hex : (bs l).extract 0 (upTo l c).length = bs (upTo l c) := by rw [bs_take, ← upTo_take]
    have hex2 : (bs l).extract ((upTo l c).length + 1) l.length = bs (l.drop ((upTo l c).length + 1)) := bs_drop _ _
    clear hix0
    replace hix := hide hix
    generalize upTo l c = p at hix hlt hex hex2 ⊢
    clear hc
    go_enter Tryz.func49, Tryz.ntmps49
    go_wp2_with fail
    refine hix.out.mono ?_
    rintro e w' ⟨rfl, rfl⟩
    have hw1 : IntKind.i64.wrap ((p.length : Int) + 1) = (p.length : Int) + 1 := IntWalk.i64_in _ (by omega)
    go_wp2_with fail
    go_region_with ((fail))
    all_goals
      go_wp2
      go_ret3
      exact ⟨_, _, rfl, (Mod.refl _ _).drew⟩
  · have hix : Calls Tryz.prog 47 #[.string (bs l), .string ⟨#[c]⟩] w fun e w' => e = .returned (.int .i64 (-1)) ∧ w' = w := by
      have := index_upTo l c
      rw [if_neg hc] at this
      rw [← this]; exact hix0
    rw [upTo_all hc]
    clear hix0 hc
    replace hix := hide hix
    go_enter Tryz.func49, Tryz.ntmps49
    go_wp2_with fail
    refine hix.out.mono ?_
    rintro e w' ⟨rfl, rfl⟩
    go_wp2
    go_ret3
    exact ⟨_, _, rfl, Mod.refl _ _⟩

theorem cut_any (l : List UInt8) (c : UInt8) (w : World) (hl : l.length ≤ 9223372036854775806) :
    Calls Tryz.prog 33 #[.string (bs l), .string ⟨#[c]⟩] w fun e w' => ∃ u v, e = .returned (.tuple #[.string (bs (upTo l c)), u, v]) ∧ Mod NoB w w' := by
  have hin := cutIn_any l c w hl
  replace hin := hide hin
  go_enter Tryz.func33, Tryz.ntmps33
  go_wp2_with fail
  refine hin.out.mono ?_
  rintro e w' ⟨u, v, rfl, hm⟩
  replace hm := hide hm
  go_wp2
  go_ret3
  exact ⟨_, _, rfl, hm.out⟩
end Go.Proofs.YtdcmjjinmnbaoaaGreatDoor
namespace Go.Proofs.YtdcmjjinmnbaoaaGreatDoor
open Go.RowKit

/-- What is left of a text behind its first k bytes c. -/
def restF (c : UInt8) (l : List UInt8) : Nat → List UInt8
  | 0 => l
  | k + 1 => (restF c l k).drop ((upTo (restF c l k) c).length + 1)
def partF (c : UInt8) (l : List UInt8) (k : Nat) : List UInt8 := upTo (restF c l k) c
def partsN (c : UInt8) (l : List UInt8) : Nat := l.count c + 1

theorem drop_count (l : List UInt8) (c : UInt8) (h : c ∈ l) : (l.drop ((upTo l c).length + 1)).count c + 1 = l.count c := by
  induction l with
  | nil => cases h
  | cons b l ih =>
    unfold upTo
    rw [List.takeWhile_cons]
    by_cases hb : b = c
    · subst hb; simp
    · have h1 : (b != c) = true := by simpa using hb
      rw [if_pos h1]
      have hm : c ∈ l := by
        rcases List.mem_cons.mp h with e | e
        · exact absurd e.symm hb
        · exact e
      have := ih hm
      simp only [List.length_cons, List.drop_succ_cons]
      rw [List.count_cons_of_ne hb]
      exact this

theorem rest_count (c : UInt8) (l : List UInt8) (k : Nat) (hk : k ≤ l.count c) : (restF c l k).count c + k = l.count c := by
  induction k with
  | zero => rfl
  | succ k ih =>
    have h := ih (by omega)
    have hm : c ∈ restF c l k := List.count_pos_iff.mp (by omega)
    have := drop_count (restF c l k) c hm
    show ((restF c l k).drop _).count c + (k + 1) = _
    omega

theorem rest_len (c : UInt8) (l : List UInt8) (k : Nat) : (restF c l k).length ≤ l.length := by
  induction k with
  | zero => exact Nat.le_refl _
  | succ k ih => simp only [restF, List.length_drop]; omega

theorem parts_of (c : UInt8) (l : List UInt8) (hl : l.length ≤ 9223372036854775807) : Parts c (partsN c l) (restF c l) (partF c l) where
  pos := by simp [partsN]
  len k _ := Nat.le_trans (rest_len c l k) hl
  mid k hk := by
    have h := rest_count c l k (by simp only [partsN] at hk; omega)
    have hm : c ∈ restF c l k := List.count_pos_iff.mp (by simp only [partsN] at hk; omega)
    refine ⟨?_, upTo_lt hm, upTo_take _ _, rfl⟩
    have := index_upTo (restF c l k) c
    rwa [if_pos hm] at this
  last := by
    have h := rest_count c l (l.count c) (Nat.le_refl _)
    have hn : c ∉ restF c l (l.count c) := fun hm => by have := List.count_pos_iff.mpr hm; omega
    have h2 := index_upTo (restF c l (l.count c)) c
    rw [if_neg hn] at h2
    simp only [partsN, Nat.add_sub_cancel]
    exact ⟨h2, upTo_all hn⟩

/-- A line's own part, its words. -/
def bare (l : List UInt8) (k : Nat) : List UInt8 := upTo (partF 10 l k) 35
def wordsOf (l : List UInt8) (k : Nat) : List (List UInt8) := Lib.fields (bare l k)
def okLine (l : List UInt8) (k : Nat) : Bool := (bare l k).all okB

/-- The lines that have words, of the first k. -/
def linesTo (l : List UInt8) : Nat → List (Nat × List (List UInt8))
  | 0 => []
  | k + 1 => linesTo l k ++ if 0 < (wordsOf l k).length then [(k + 1, wordsOf l k)] else []

theorem linesTo_len (l : List UInt8) (k : Nat) : (linesTo l k).length ≤ k := by
  induction k with
  | zero => exact Nat.le_refl _
  | succ k ih => unfold linesTo; split <;> simp <;> omega

end Go.Proofs.YtdcmjjinmnbaoaaGreatDoor
namespace Go.Proofs.YtdcmjjinmnbaoaaGreatDoor
open Go.RowKit Go.Shelf
attribute [local go_sem] Oper.semAt_some

theorem lines_long (l : List UInt8) (hl : 65536 < l.length) (h2 : l.length ≤ 9223372036854775807) (w : World) :
    Calls Tryz.prog 19 #[.string (bs l)] w fun e w' => e = .returned (.tuple #[.slice none 0 0, .int .i64 0, .int .i64 7]) ∧ Mod NoB w w' := by
  go_enter Tryz.func19, Tryz.ntmps19
  go_wp2
  exact bodyPost_ret (v := .tuple #[.slice none 0 0, .int .i64 0, .int .i64 7]) (by simp [results, Tryz.results19, go_sem]) rfl ⟨rfl, (((Mod.refl _ _).alloc _).alloc _).alloc _⟩

theorem Mod.putObj {S : Nat → Prop} {a w : World} (h : Mod S a w) {b : Nat} (hb : S b ∨ a.heap.size ≤ b) (o : Obj) : Mod S a (w.putObj b o) :=
  ⟨h.os, h.tape, h.output, by rw [World.putObj_size]; exact h.size, fun k hk hn => by
    rw [World.putObj_heap_other (fun e => by subst e; rcases hb with hb | hb; exact hn hb; omega)]
    exact h.block k hk hn⟩

/-- Texts in a row of the call's own. -/
def StrsAt (base : Nat) (W : World) (v : Value) (ws : List (List UInt8)) : Prop := W.ownsRow base 9 1 v ws.length (ws.map fun s => .string (bs s))

/-- Lines in a row of the call's own. -/
def LinesAt (T : TypeId) (base : Nat) (W : World) (v : Value) (L : List (Nat × List (List UInt8))) : Prop :=
  ∃ E : List ((Nat × List (List UInt8)) × Value), E.map (·.1) = L ∧ W.ownsRow base T 2 v E.length (E.flatMap fun x => [.int .i64 x.1.1, x.2]) ∧ ∀ x ∈ E, StrsAt base W x.2 x.1.2

theorem LinesAt.mod {T base : Nat} {W W' : World} {v : Value} {L : List (Nat × List (List UInt8))} {S : Nat → Prop} (h : LinesAt T base W v L) (hm : Mod S W W') (hS : ∀ k, S k → k < base) : LinesAt T base W' v L :=
  let ⟨E, h1, h2, h3⟩ := h
  ⟨E, h1, ownsRow_mod h2 hm hS, fun x hx => ownsRow_mod (h3 x hx) hm hS⟩

/-- Between two rounds of lex.Lines, k lines having been seen. -/
structure JL (w : World) (L : List (Nat × List (List UInt8))) (k : Nat) (r : List UInt8) (W : World) : Prop where
  h0 : W.heap[w.heap.size]? = some (.cells #[.slice none 0 0] 51 (0, 0))
  h1 : W.heap[w.heap.size + 1]? = some (.cells #[.int .i64 0] 3 (0, 0))
  h2 : W.heap[w.heap.size + 2]? = some (.cells #[.int .i64 0] 26 (0, 0))
  h3 : ∃ v, W.heap[w.heap.size + 3]? = some (.cells #[v] 51 (0, 0)) ∧ LinesAt 58 (w.heap.size + 10) W v L
  h4 : W.heap[w.heap.size + 4]? = some (.cells #[.int .i64 k] 3 (0, 0))
  h5 : W.heap[w.heap.size + 5]? = some (.cells #[.string (bs r)] 9 (0, 0))
  h6 : W.heap[w.heap.size + 6]? = some (.cells #[.string ⟨#[10]⟩] 9 (0, 0))
  h7 : W.heap[w.heap.size + 7]? = some (.cells #[.int .i64 0] 3 (0, 0))
  m : Mod NoB w W

theorem JL.mod {w : World} {L : List (Nat × List (List UInt8))} {k : Nat} {r : List UInt8} {W W' : World} {S : Nat → Prop} (h : JL w L k r W) (hm : Mod S W W') (hS : ∀ b, S b → w.heap.size + 8 ≤ b ∧ b < w.heap.size + 10) : JL w L k r W' :=
  ⟨hm.heap h.h0 (fun s => by have := hS _ s; omega), hm.heap h.h1 (fun s => by have := hS _ s; omega), hm.heap h.h2 (fun s => by have := hS _ s; omega),
   let ⟨v, a, b⟩ := h.h3; ⟨v, hm.heap a (fun s => by have := hS _ s; omega), b.mod hm (fun b s => (hS b s).2)⟩,
   hm.heap h.h4 (fun s => by have := hS _ s; omega), hm.heap h.h5 (fun s => by have := hS _ s; omega), hm.heap h.h6 (fun s => by have := hS _ s; omega), hm.heap h.h7 (fun s => by have := hS _ s; omega),
   h.m.into hm fun b s => Or.inr (by have := hS _ s; omega)⟩

theorem JL.it {w : World} {L : List (Nat × List (List UInt8))} {k : Nat} {r : List UInt8} {W : World} (h : JL w L k r W) : SplitAt 10 (w.heap.size + 5) (w.heap.size + 6) (w.heap.size + 7) r W :=
  ⟨cell_of_block h.h5 0 rfl, frozen_of_block h.h5 0, cell_of_block h.h6 0 rfl, cell_of_block h.h7 0 rfl⟩

theorem JL.apart {w : World} {L : List (Nat × List (List UInt8))} {k : Nat} {r : List UInt8} : Apart (w.heap.size + 8) (JL w L k r) := fun _ b o h1 h2 h =>
  h.mod (S := (· = b)) (Mod.putObj (S := (· = b)) (Mod.refl _ _) (Or.inl rfl) o) (fun _ e => by subst e; omega)

theorem JL.next {w : World} {L : List (Nat × List (List UInt8))} {k : Nat} {r r' : List UInt8} {W : World} (h : JL w L k r W) : JL w L k r' (W.setCell ⟨w.heap.size + 5, 0, none⟩ (.string (bs r'))) := by
  have hm : Mod (· = w.heap.size + 5) W (W.setCell ⟨w.heap.size + 5, 0, none⟩ (.string (bs r'))) := (Mod.refl _ _).set1 _ _
  refine ⟨hm.heap h.h0 (by omega), hm.heap h.h1 (by omega), hm.heap h.h2 (by omega), ?_, hm.heap h.h4 (by omega), ?_, hm.heap h.h6 (by omega), hm.heap h.h7 (by omega), h.m.into hm fun b s => Or.inr (by omega)⟩
  · obtain ⟨v, a, b⟩ := h.h3
    exact ⟨v, hm.heap a (by omega), b.mod hm (fun b s => by omega)⟩
  · rw [heap_setCell_eq h.h5]; simp

theorem JL.num {w : World} {L : List (Nat × List (List UInt8))} {k k' : Nat} {r : List UInt8} {W : World} (h : JL w L k r W) : JL w L k' r (W.setCell ⟨w.heap.size + 4, 0, none⟩ (.int .i64 k')) := by
  have hm : Mod (· = w.heap.size + 4) W (W.setCell ⟨w.heap.size + 4, 0, none⟩ (.int .i64 k')) := (Mod.refl _ _).set1 _ _
  refine ⟨hm.heap h.h0 (by omega), hm.heap h.h1 (by omega), hm.heap h.h2 (by omega), ?_, ?_, hm.heap h.h5 (by omega), hm.heap h.h6 (by omega), hm.heap h.h7 (by omega), h.m.into hm fun b s => Or.inr (by omega)⟩
  · obtain ⟨v, a, b⟩ := h.h3
    exact ⟨v, hm.heap a (by omega), b.mod hm (fun b s => by omega)⟩
  · rw [heap_setCell_eq h.h4]; simp

/-- It has left by a return: line j is wrong. -/
structure XL (w : World) (l : List UInt8) (W : World) : Prop where
  bad : ∃ j : Nat, j < partsN 10 l ∧ okLine l j = false ∧ (∀ i, i < j → okLine l i = true) ∧ W.heap[w.heap.size + 1]? = some (.cells #[.int .i64 ((j + 1 : Nat) : Int)] 3 (0, 0))
  h0 : W.heap[w.heap.size]? = some (.cells #[.slice none 0 0] 51 (0, 0))
  h2 : W.heap[w.heap.size + 2]? = some (.cells #[.int .i64 6] 26 (0, 0))
  m : Mod NoB w W

theorem XL.apart {w : World} {l : List UInt8} : Apart (w.heap.size + 8) (XL w l) := fun W b o h1 h2 h => by
  have hm : Mod (· = b) W (W.putObj b o) := Mod.putObj (S := (· = b)) (Mod.refl _ _) (Or.inl rfl) o
  obtain ⟨⟨j, a1, a2, a3, a4⟩, h0, h2', m⟩ := h
  exact ⟨⟨j, a1, a2, a3, hm.heap a4 (by omega)⟩, hm.heap h0 (by omega), hm.heap h2' (by omega), m.into hm fun b s => Or.inr (by omega)⟩

theorem alloc_get (w : World) (o : Obj) (k : Nat) : (w.alloc o).heap[k]? = if k = w.heap.size then some o else w.heap[k]? := by
  split
  · rename_i h; subst h; exact heap_alloc_new w o
  · rename_i h
    rcases Nat.lt_or_ge k w.heap.size with h1 | h1
    · exact heap_alloc_old h1 o
    · rw [Array.getElem?_eq_none (by rw [World.size_alloc]; omega), Array.getElem?_eq_none h1]

theorem res3 (tmps : Array Value) (W : World) (a b c : Nat) (u v x : Value) (ha : tmps[2]?.getD undef = .pointer (some ⟨a, 0, none⟩)) (hb : tmps[3]?.getD undef = .pointer (some ⟨b, 0, none⟩)) (hc : tmps[4]?.getD undef = .pointer (some ⟨c, 0, none⟩))
    (h0 : W.cell? ⟨a, 0, none⟩ = some u) (h1 : W.cell? ⟨b, 0, none⟩ = some v) (h2 : W.cell? ⟨c, 0, none⟩ = some x) :
    (results Tryz.f19 tmps).run Tryz.prog W = .ok (.tuple #[u, v, x]) W := by
  simp [results, Tryz.results19, go_sem, ha, hb, hc, h0, h1, h2]

theorem LinesAt.slice {T base : Nat} {W : World} {v : Value} {L : List (Nat × List (List UInt8))} (h : LinesAt T base W v L) : ∃ p n c, v = .slice p n c := by
  obtain ⟨E, h1, h2, h3⟩ := h
  rcases h2.2 with ⟨h, _⟩ | ⟨g, cap, cur, h, _⟩
  · exact ⟨_, _, _, h⟩
  · exact ⟨_, _, _, h⟩

theorem set3 {W : World} {B : Nat} {a b c : Value} {t t' t'' : TypeId} (x y z : Value) (h0 : W.heap[B]? = some (.cells #[a] t (0, 0))) (h1 : W.heap[B + 1]? = some (.cells #[b] t' (0, 0))) (h2 : W.heap[B + 2]? = some (.cells #[c] t'' (0, 0)))
    {Wz : World} (hWz : ((W.setCell ⟨B, 0, none⟩ x).setCell ⟨B + 1, 0, none⟩ y).setCell ⟨B + 2, 0, none⟩ z = Wz) :
    Wz.heap[B]? = some (.cells #[x] t (0, 0)) ∧ Wz.heap[B + 1]? = some (.cells #[y] t' (0, 0)) ∧ Wz.heap[B + 2]? = some (.cells #[z] t'' (0, 0)) ∧ Mod (fun b => b < B + 3 ∧ B ≤ b) W Wz := by
  refine ⟨?_, ?_, ?_, ?_⟩
  · rw [← hWz, heap_setCell_ne (by simp), heap_setCell_ne (by simp), heap_setCell_eq h0]; simp
  · rw [← hWz, heap_setCell_ne (by simp), heap_setCell_eq (c := #[b]) (t := t') (fr := (0, 0)) (by rw [heap_setCell_ne (by simp)]; exact h1)]; simp
  · rw [← hWz, heap_setCell_eq (c := #[c]) (t := t'') (fr := (0, 0)) (by rw [heap_setCell_ne (by simp), heap_setCell_ne (by simp)]; exact h2)]; simp
  · rw [← hWz]
    exact (((Mod.refl _ _).setCell (Or.inl (by simp)) _).setCell (Or.inl (by simp)) _).setCell (Or.inl (by simp)) _

theorem cntF_le (l : List UInt8) : ∀ ws, Lib.cntF ws l ≤ l.length := by
  induction l with
  | nil => intro ws; simp [Lib.cntF]
  | cons b l ih =>
    intro ws
    have := ih (Lib.isSp b)
    simp only [Lib.cntF, List.length_cons]
    split <;> omega
theorem fields_len (l : List UInt8) : (Lib.fields l).length ≤ l.length := by
  have := cntF_le l true
  rw [Lib.fields, Lib.fieldsGo_length]
  simpa using this

theorem LinesAt.snoc {T base : Nat} {W' : World} {v' : Value} {L : List (Nat × List (List UInt8))} {E : List ((Nat × List (List UInt8)) × Value)} (h1 : E.map (·.1) = L) (h3 : ∀ x ∈ E, StrsAt base W' x.2 x.1.2)
    {N : Nat} {ws : List (List UInt8)} {u : Value} (hu : StrsAt base W' u ws) (hown : W'.ownsRow base T 2 v' (E.length + 1) ((E.flatMap fun x => [.int .i64 x.1.1, x.2]) ++ [.int .i64 (N : Int), u])) :
    LinesAt T base W' v' (L ++ [(N, ws)]) := by
  refine ⟨E ++ [((N, ws), u)], by simp [h1], by simpa using hown, fun x hx => ?_⟩
  rcases List.mem_append.mp hx with h | h
  · exact h3 x h
  · simp at h; subst h; exact hu

theorem Mod.grownIn {S : Nat → Prop} {a w w' : World} {row : Option Nat} (h : Mod S a w) (hg : w.grownBy w' row) (hr : ∀ k, row = some k → S k) : Mod S a w' :=
  ⟨hg.os.trans h.os, hg.tape.trans h.tape, hg.output.trans h.output, Nat.le_trans h.size hg.size, fun k hk hn =>
    (hg.block k (Nat.lt_of_lt_of_le hk h.size) (fun e => hn (hr k e.symm))).trans (h.block k hk hn)⟩
theorem own_ge {W : World} {base : Nat} {e : TypeId} {z : Nat} {v : Value} {n : Nat} {xs : List Value} (h : W.ownsRow base e z v n xs) (k : Nat) (hk : v.ownBlock = some k) : base ≤ k := by
  rcases h.2 with ⟨h, _⟩ | ⟨g, cap, cur, h, hb, _⟩
  · subst h; simp [Value.ownBlock] at hk
  · subst h; simp [Value.ownBlock] at hk; omega
theorem own_slice {W : World} {base : Nat} {e : TypeId} {z : Nat} {v : Value} {n : Nat} {xs : List Value} (h : W.ownsRow base e z v n xs) : ∃ p n c, v = .slice p n c := by
  rcases h.2 with ⟨h, _⟩ | ⟨g, cap, cur, h, _⟩
  · exact ⟨_, _, _, h⟩
  · exact ⟨_, _, _, h⟩
theorem cells_two_new (w : World) (x y : Value) (t : TypeId) : ∀ j u, [x, y][j]? = some u → (w.alloc (.cells #[x, y] t)).cell? ((⟨w.heap.size, 0, none⟩ : Addr).add j) = some u := by
  intro j u hu
  rw [Go.WideShapes.add_plain, Nat.zero_add]
  refine cell_of_block (heap_alloc_new w _) j ?_
  rw [← hu]; simp
/-- An append must leave what lies ahead as it lay, but for the row itself. -/
theorem grown_mod {W w5 : World} {o : Obj} {base : Nat} {e : TypeId} {z : Nat} {v : Value} {n : Nat} {xs : List Value} (h : W.ownsRow base e z v n xs) (hg : (W.alloc o).grownBy w5 v.ownBlock) : Mod (fun b => base ≤ b) W w5 :=
  Mod.grownIn ((Mod.refl _ _).alloc o) hg (own_ge h)

theorem StrsAt.grown {W w5 : World} {o : Obj} {base : Nat} {e : TypeId} {z : Nat} {v : Value} {n : Nat} {xs : List Value} {u : Value} {ws : List (List UInt8)} (hs : StrsAt base W u ws) (h : W.ownsRow base e z v n xs) (hne : e ≠ 9)
    (hg : (W.alloc o).grownBy w5 v.ownBlock) : StrsAt base w5 u ws := by
  refine ⟨hs.1, ?_⟩
  rcases hs.2 with h0 | ⟨g, cap, cur, hv, hb, hgc, r⟩
  · exact Or.inl h0
  · refine Or.inr ⟨g, cap, cur, hv, hb, ?_, r⟩
    have hlt := lt_of_block hgc
    rw [hg.block g (by simp; omega) ?_, heap_alloc_old hlt]
    · exact hgc
    · intro hrow
      rcases h.2 with ⟨h1, _⟩ | ⟨g', cap', cur', h1, _, hgc', _⟩
      · subst h1; simp [Value.ownBlock] at hrow
      · subst h1
        simp [Value.ownBlock] at hrow
        subst hrow
        rw [hgc] at hgc'
        simp at hgc'
        exact hne hgc'.2.symm

theorem infoLine : (Tryz.prog.info? 58).map (fun i => (i.zero, i.size, i.bytes)) = some (some (.agg #[.int .i64 0, .slice none 0 0]), 2, 32) := by kernel_rfl

/-- How lex.Lines ends at a text that is not too long. -/
def LinesOut (w : World) (l : List UInt8) (e : Ending) (w' : World) : Prop :=
  ((∃ j : Nat, j < partsN 10 l ∧ okLine l j = false ∧ (∀ i, i < j → okLine l i = true) ∧ e = .returned (.tuple #[.slice none 0 0, .int .i64 ((j + 1 : Nat) : Int), .int .i64 6])) ∨
   ((∀ i, i < partsN 10 l → okLine l i = true) ∧ ∃ v, e = .returned (.tuple #[v, .int .i64 0, .int .i64 0]) ∧ LinesAt 58 (w.heap.size + 10) w' v (linesTo l (partsN 10 l)))) ∧ Mod NoB w w'

set_option maxRecDepth 100000 in
set_option maxHeartbeats 8000000 in
theorem lines_walk (l : List UInt8) (hl : l.length ≤ 65536) (w : World) (htab : ∀ W, Mod NoB w W → Lib.TabIs Tryz.prog W "strings.asciiSpace" .u8 Lib.asciiSpaceTab) :
    Calls Tryz.prog 19 #[.string (bs l)] w (LinesOut w l) := by
  have htab := hide htab
  refine (callsIn_wide (n := 9)).1 ?_
  refine callsIn_of_wp_marks Tryz.func19 rfl trivial ?_ rfl
  simp only [Tryz.ntmps19, List.size_toArray, List.length_cons, List.length_nil, Nat.reduceAdd, Nat.reduceSub, Array.replicate_succ, Array.replicate_zero, List.push_toArray, List.append_toArray, List.nil_append, List.cons_append]
  gi_wp2_with fail
  refine ⟨trivial, (callsIn_wide.2 (splitSeq_any (bs l) ⟨#[10]⟩ _)).mono ?_⟩
  rintro e w' ⟨rfl, rfl⟩
  gi_wp2_with fail
  have hJ0 : ∀ o o', JL w [] 0 l ((((((((((w.alloc (.cells #[.slice none 0 0] 51)).alloc (.cells #[.int .i64 0] 3)).alloc (.cells #[.int .i64 0] 26)).alloc (.cells #[.slice none 0 0] 51)).alloc (.cells #[.int .i64 0] 3)).alloc (.cells #[.string (bs l)] 9)).alloc (.cells #[.string ⟨#[10]⟩] 9)).alloc (.cells #[.int .i64 0] 3)).alloc o).alloc o') := by
    intro o o'
    refine ⟨?_, ?_, ?_, ⟨.slice none 0 0, ?_, ⟨[], rfl, World.ownsRow_nil _ _ _ _, by simp⟩⟩, ?_, ?_, ?_, ?_, (((((((((((Mod.refl _ _).alloc _).alloc _).alloc _).alloc _).alloc _).alloc _).alloc _).alloc _).alloc _).alloc _)⟩
    all_goals simp only [alloc_get, World.size_alloc]
    all_goals repeat (first | rw [if_pos (by omega)] | rw [if_neg (by omega)])
    all_goals exact if_pos trivial
  generalize hw8 : (((((((w.alloc (.cells #[.slice none 0 0] 51)).alloc (.cells #[.int .i64 0] 3)).alloc (.cells #[.int .i64 0] 26)).alloc (.cells #[.slice none 0 0] 51)).alloc (.cells #[.int .i64 0] 3)).alloc (.cells #[.string (bs l)] 9)).alloc (.cells #[.string ⟨#[10]⟩] 9)).alloc (.cells #[.int .i64 0] 3) = w8 at hJ0 ⊢
  have hsz : w8.heap.size = w.heap.size + 8 := by rw [← hw8]; simp
  clear hw8
  replace hJ0 := hide hJ0
  simp only [Nat.add_assoc, Nat.reduceAdd]
  refine rangeSplit 9 10 (w.heap.size + 5) (w.heap.size + 6) (w.heap.size + 7) (partsN 10 l) (restF 10 l) (partF 10 l) (parts_of 10 l (by omega)) rfl rfl
    (fun k W => JL w (linesTo l k) k (restF 10 l k) W ∧ ∀ j, j < k → okLine l j = true) (fun k W => JL w (linesTo l (k + 1)) (k + 1) (restF 10 l k) W ∧ ∀ j, j < k + 1 → okLine l j = true) (XL w l)
    (fun k => by rw [hsz]; exact fun W b o a1 a2 h => ⟨JL.apart W b o a1 a2 h.1, h.2⟩) (fun k => by rw [hsz]; exact fun W b o a1 a2 h => ⟨JL.apart W b o a1 a2 h.1, h.2⟩) (by rw [hsz]; exact XL.apart) (by omega)
    (fun k W h => h.1.it) (fun k W h => h.1.it) (fun k W _ h => ⟨h.1.next, h.2⟩) (fun o o' => ⟨hJ0.out o o', by omega⟩)
    (fun k => { tmps := #[.string (bs l), undef, .pointer (some ⟨w.heap.size, 0, none⟩), .pointer (some ⟨w.heap.size + 1, 0, none⟩), .pointer (some ⟨w.heap.size + 2, 0, none⟩), .pointer (some ⟨w.heap.size + 3, 0, none⟩), .pointer (some ⟨w.heap.size + 4, 0, none⟩), .string (bs (partF 10 l k)), undef, .string (bs l),
      .int .i64 l.length, .bool (decide (65536 < (l.length : Int))), .string (bs l), .func (.func 61) #[] #[.pointer (some ⟨w.heap.size + 6, 0, none⟩), .pointer (some ⟨w.heap.size + 5, 0, none⟩), .pointer (some ⟨w.heap.size + 7, 0, none⟩)], .string (bs (partF 10 l k)),
      undef, undef, undef, undef, undef, undef, undef, undef, undef, undef, undef, undef, undef, undef, undef, undef, undef, undef, undef, undef, undef, undef, undef, undef], defers := [] }) ?assign ?body ?done ?stop
  case assign =>
    intro l2 k W K hK
    gi_wp2
    exact hK
  case body =>
    rintro l2 k W hk hW ⟨hj, hok⟩
    rw [hsz] at hW ⊢
    have hcn : l.count 10 ≤ l.length := List.count_le_length
    have hk6 : k ≤ 65536 := by simp only [partsN] at hk; omega
    have hpl : (partF 10 l k).length ≤ 65536 := Nat.le_trans (upTo_le _ _) (Nat.le_trans (rest_len 10 l k) hl)
    have c4 := cell_of_block hj.h4 0 (v := .int .i64 k) rfl
    have f4 := frozen_of_block hj.h4 0
    have hj1 : Hid (JL w (linesTo l k) (k + 1) (restF 10 l k) (W.setCell ⟨w.heap.size + 4, 0, none⟩ (.int .i64 ((k : Int) + 1)))) := hide hj.num
    have hF1 : Hid (Mod (fun b => b < w.heap.size + 8 ∨ w.heap.size + 10 ≤ b) W (W.setCell ⟨w.heap.size + 4, 0, none⟩ (.int .i64 ((k : Int) + 1)))) := hide ((Mod.refl _ _).setCell (Or.inl (by simp)) _)
    replace hok := hide hok
    replace hj := hide hj
    have hcut := hide (cut_any (partF 10 l k) 35)
    have hbr : upTo (partF 10 l k) 35 = bare l k := rfl
    rw [hbr] at hcut
    have hbl : (bare l k).length ≤ 65536 := Nat.le_trans (upTo_le _ _) hpl
    gi_wp2_with fail
    refine ⟨trivial, ((callsIn_wide.2 (hcut.out _ (by omega))).inRound l2).mono ?_⟩
    rintro e W2 ⟨u, v, rfl, hm2⟩
    replace hj1 := hide (hj1.out.mod hm2 (fun _ h => h.elim))
    replace hF1 := hide (hF1.out.trans (hm2.mono fun _ _ h => h.elim))
    clear hm2 c4 f4
    gi_wp2_with fail
    refine ⟨trivial, ((callsIn_wide.2 (plain_any (bs (bare l k)) _)).inRound l2).mono ?_⟩
    rintro e W3 ⟨rfl, hm3⟩
    replace hj1 := hide (hj1.out.mod hm3 (fun _ h => h.elim))
    replace hF1 := hide (hF1.out.trans (hm3.mono fun _ _ h => h.elim))
    clear hm3
    have hpb : ((bs (bare l k)).data.toList.all okB) = okLine l k := rfl
    rw [hpb]
    cases hokk : okLine l k with
    | false =>
      replace hokk := hide hokk
      have c4 := cell_of_block hj1.out.h4 0 (v := .int .i64 ((k : Int) + 1)) rfl
      have c0 := cell_of_block hj1.out.h0 0 (v := .slice none 0 0) rfl
      have c1 := cell_of_block hj1.out.h1 0 (v := .int .i64 0) rfl
      have c2 := cell_of_block hj1.out.h2 0 (v := .int .i64 0) rfl
      have f0 := frozen_of_block hj1.out.h0 0
      have f1 := frozen_of_block hj1.out.h1 0
      have f2 := frozen_of_block hj1.out.h2 0
      have hmx : Tryz.prog.follows .mixedOrders = true := by kernel_rfl
      gi_wp2_with fail
      gi_region_with_o (fail)
      all_goals gi_wp2
      all_goals
        obtain ⟨Wz, hWz⟩ : ∃ Wz, ((W3.setCell ⟨w.heap.size, 0, none⟩ (.slice none 0 0)).setCell ⟨w.heap.size + 1, 0, none⟩ (.int .i64 ((k : Int) + 1))).setCell ⟨w.heap.size + 2, 0, none⟩ (.int .i64 6) = Wz := ⟨_, rfl⟩
        obtain ⟨z0, z1, z2, hmz⟩ := set3 _ _ _ hj1.out.h0 hj1.out.h1 hj1.out.h2 hWz
        rw [hWz]
        refine ⟨fun b hb1 hb2 => ?_, ⟨k, hk, hokk.out, hok.out, z1⟩, z0, z2, (hj1.out.m.into hmz fun b s => Or.inr s.2).drew⟩
        exact (hmz.block b (by have := hF1.out.size; omega) (by omega)).trans (hF1.out.block b (by omega) (by omega))
    | true =>
      replace hokk := hide hokk
      have hab : ∀ (j : Nat) b, (bs (bare l k)).data.toList[j]? = some b → b.toNat < 128 := fun j b hb => by
        have h1 : b ∈ bare l k := List.mem_of_getElem? hb
        have h2 := hokk.out
        unfold okLine at h2
        have h3 := List.all_eq_true.mp h2 b h1
        rw [okB_eq] at h3
        simp at h3
        omega
      have hfl := hide (Tryz.strings_Fields (bs (bare l k)) W3 (by show (bare l k).length < _; omega) hab (htab.out W3 hj1.out.m))
      gi_wp2_with fail
      refine ⟨trivial, ((callsIn_wide.2 hfl.out).inRound l2).mono ?_⟩
      rintro e W4 ⟨rfl, rfl⟩
      clear hfl hab
      have hsz3 : w.heap.size + 10 ≤ W3.heap.size := by have := hF1.out.size; omega
      have hfn := fields_len (bare l k)
      have hwd : wordsOf l k = Lib.fields (bare l k) := rfl
      have hok2 : Hid (∀ j, j < k + 1 → okLine l j = true) := hide (fun j hj => by
        rcases Nat.lt_or_ge j k with h | h
        · exact hok.out j h
        · obtain rfl : j = k := by omega
          exact hokk.out)
      generalize Lib.fields (bare l k) = ws at hfn hwd ⊢
      generalize hW4 : W3.alloc (.cells ((ws.map fun l => Value.string ⟨l.toArray⟩).toArray) 9) = W4
      have hst : StrsAt (w.heap.size + 10) W4 (.slice (some ⟨W3.heap.size, 0, none⟩) ws.length ws.length) ws := by
        refine ⟨by simp, Or.inr ⟨W3.heap.size, ws.length, (ws.map fun l => Value.string ⟨l.toArray⟩).toArray, rfl, hsz3, ?_, Nat.le_refl _, by unfold maxLen; omega, by simp, by simp only [Nat.mul_one]; exact List.take_of_length_le (by simp)⟩⟩
        rw [← hW4]
        exact heap_alloc_new _ _
      replace hj1 := hj1.out.mod (W' := W4) (S := NoB) (by rw [← hW4]; exact (Mod.refl _ _).alloc _) (fun _ h => h.elim)
      replace hF1 : Mod (fun b => b < w.heap.size + 8 ∨ w.heap.size + 10 ≤ b) W W4 := by rw [← hW4]; exact hF1.out.alloc _
      generalize W3.heap.size = gb at hst hsz3 ⊢
      clear hW4
      replace hst := hide hst
      replace hF1 := hide hF1
      by_cases hn0 : ws.length = 0
      · replace hj1 := hide hj1
        replace hwd := hide hwd
        gi_wp2
        refine ⟨fun b hb1 hb2 => hF1.out.block b (by omega) (by omega), ?_, hok2.out⟩
        have : linesTo l (k + 1) = linesTo l k := by
          show linesTo l k ++ (if 0 < (wordsOf l k).length then _ else _) = _
          rw [if_neg (by rw [hwd.out]; omega)]
          simp
        rw [this]
        exact hj1.out
      · have hpos : 0 < ws.length := by omega
        clear hn0
        obtain ⟨v, h3, E, hE1, hE2, hE3⟩ := hj1.h3
        obtain ⟨p, n, cp, rfl⟩ := LinesAt.slice ⟨E, hE1, hE2, hE3⟩
        have hEl : E.length ≤ 65536 := by
          have h1 := linesTo_len l k
          rw [← hE1] at h1
          simp at h1
          omega
        have c3 := cell_of_block h3 0 (v := .slice p n cp) rfl
        have f3 := frozen_of_block h3 0
        have c4 := cell_of_block hj1.h4 0 (v := .int .i64 ((k : Int) + 1)) rfl
        obtain ⟨i0, hi, hz0, hz1, hz2⟩ := info_parts infoLine
        replace hi := hide hi
        replace hz0 := hide hz0
        replace hz1 := hide hz1
        replace hz2 := hide hz2
        replace hj1 := hide hj1
        replace h3 := hide h3
        replace hE1 := hide hE1
        replace hE2 := hide hE2
        replace hE3 := hide hE3
        replace hwd := hide hwd
        gi_wp2_with (gi_at_builtin; refine wpListIn_append_own _ rfl (.tmp 32) (.tmp 36) 51 rfl (w.heap.size + 10) 58 i0 (.agg #[.int .i64 0, .slice none 0 0]) 2 32 Tryz.underlying51 hi.out hz0.out hz1.out hz2.out rfl (by decide) (.slice p n cp) E.length _ rfl (ownsRow_mod (S := NoB) hE2.out ((Mod.refl _ _).alloc _) (fun _ h => h.elim)) ⟨W4.heap.size, 0, none⟩ 1 1 [.int .i64 ((k : Int) + 1), .slice (some ⟨gb, 0, none⟩) ws.length ws.length] rfl rfl (cells_two_new _ _ _ _) (by intro u hu; simp at hu; rcases hu with rfl | rfl <;> rfl) (by unfold maxLen; omega) (by omega) (by have := hF1.out.size; simp; omega) ?_; intro v' w5 hown' hgrow _; obtain ⟨p', n', c', rfl⟩ := own_slice hown'; have hm5 := grown_mod hE2.out hgrow; have d3 := cell_of_block (hm5.heap h3.out (by omega)) 0 (v := .slice p n cp) rfl; have e3 := frozen_of_block (hm5.heap h3.out (by omega)) 0)
        have hm6 : Mod (fun b => b = w.heap.size + 3 ∨ w.heap.size + 10 ≤ b) W4 (w5.setCell ⟨w.heap.size + 3, 0, none⟩ (.slice p' n' c')) := Mod.setCell (S := fun b => b = w.heap.size + 3 ∨ w.heap.size + 10 ≤ b) (p := ⟨w.heap.size + 3, 0, none⟩) (hm5.mono fun b _ h => Or.inr h) (Or.inl (Or.inl rfl)) _
        have hset : Mod (· = w.heap.size + 3) w5 (w5.setCell ⟨w.heap.size + 3, 0, none⟩ (.slice p' n' c')) := (Mod.refl _ _).set1 _ _
        have hln : linesTo l (k + 1) = linesTo l k ++ [(k + 1, ws)] := by
          show linesTo l k ++ (if 0 < (wordsOf l k).length then _ else _) = _
          rw [hwd.out, if_pos hpos]
        have hx3 : ∀ x ∈ E, StrsAt (w.heap.size + 10) (w5.setCell ⟨w.heap.size + 3, 0, none⟩ (.slice p' n' c')) x.2 x.1.2 := fun x hx =>
          ownsRow_mod (S := (· = w.heap.size + 3)) ((hE3.out x hx).grown hE2.out (by decide) hgrow) hset (fun b hb => by omega)
        have hxu : StrsAt (w.heap.size + 10) (w5.setCell ⟨w.heap.size + 3, 0, none⟩ (.slice p' n' c')) (.slice (some ⟨gb, 0, none⟩) ws.length ws.length) ws :=
          ownsRow_mod (S := (· = w.heap.size + 3)) (hst.out.grown hE2.out (by decide) hgrow) hset (fun b hb => by omega)
        have hxo := ownsRow_mod (S := (· = w.heap.size + 3)) hown' hset (fun b hb => by omega)
        refine ⟨fun b hb1 hb2 => (hm6.block b (by have := hF1.out.size; omega) (by omega)).trans (hF1.out.block b (by omega) (by omega)), ?_, hok2.out⟩
        rw [hln]
        refine ⟨hm6.heap hj1.out.h0 (by omega), hm6.heap hj1.out.h1 (by omega), hm6.heap hj1.out.h2 (by omega), ⟨.slice p' n' c', ?_, LinesAt.snoc hE1.out hx3 (N := k + 1) hxu hxo⟩, hm6.heap hj1.out.h4 (by omega), hm6.heap hj1.out.h5 (by omega), hm6.heap hj1.out.h6 (by omega), hm6.heap hj1.out.h7 (by omega), hj1.out.m.into hm6 fun b s => Or.inr (by omega)⟩
        rw [heap_setCell_eq (hm5.heap h3.out (by omega))]
        simp
  case done =>
    rintro W ⟨hj, hok⟩ hD
    rw [hsz] at hD ⊢
    have hN : partsN 10 l - 1 + 1 = partsN 10 l := by simp [partsN]
    rw [hN] at hj hok
    obtain ⟨v, h3, hlines⟩ := hj.h3
    obtain ⟨p, n, cp, rfl⟩ := hlines.slice
    have hc3 := cell_of_block h3 0 (v := .slice p n cp) rfl
    have hc0 := cell_of_block hj.h0 0 (v := .slice none 0 0) rfl
    have hc1 := cell_of_block hj.h1 0 (v := .int .i64 0) rfl
    have hc2 := cell_of_block hj.h2 0 (v := .int .i64 0) rfl
    have hf0 := frozen_of_block hj.h0 0
    have hf1 := frozen_of_block hj.h1 0
    have hf2 := frozen_of_block hj.h2 0
    replace hj := hide hj
    replace h3 := hide h3
    replace hlines := hide hlines
    replace hok := hide hok
    gi_wp2
    obtain ⟨Wz, hWz⟩ : ∃ Wz, ((W.setCell ⟨w.heap.size, 0, none⟩ (.slice p n cp)).setCell ⟨w.heap.size + 1, 0, none⟩ (.int .i64 0)).setCell ⟨w.heap.size + 2, 0, none⟩ (.int .i64 0) = Wz := ⟨_, rfl⟩
    have hmz : Mod (fun b => b < w.heap.size + 3 ∧ w.heap.size ≤ b) W Wz := by
      rw [← hWz]
      exact (((Mod.refl _ _).setCell (Or.inl (by simp)) _).setCell (Or.inl (by simp)) _).setCell (Or.inl (by simp)) _
    have z0 : Wz.heap[w.heap.size]? = some (.cells #[.slice p n cp] 51 (0, 0)) := by
      rw [← hWz, heap_setCell_ne (by simp), heap_setCell_ne (by simp), heap_setCell_eq hj.out.h0]; simp
    have z1 : Wz.heap[w.heap.size + 1]? = some (.cells #[.int .i64 0] 3 (0, 0)) := by
      rw [← hWz, heap_setCell_ne (by simp), heap_setCell_eq (c := #[.int .i64 0]) (t := 3) (fr := (0, 0)) (by rw [heap_setCell_ne (by simp)]; exact hj.out.h1)]; simp
    have z2 : Wz.heap[w.heap.size + 2]? = some (.cells #[.int .i64 0] 26 (0, 0)) := by
      rw [← hWz, heap_setCell_eq (c := #[.int .i64 0]) (t := 26) (fr := (0, 0)) (by rw [heap_setCell_ne (by simp), heap_setCell_ne (by simp)]; exact hj.out.h2)]; simp
    have hDz : Wz.heap[w.heap.size + 8]? = some (.deferred (some [])) := hmz.heap hD (by omega)
    simp only [hWz]
    refine ⟨by simp, .inl ⟨_, _, rfl, run_takeDeferred hDz, ?_⟩⟩
    have hmq : Mod (· = w.heap.size + 8) Wz (Wz.putObj (w.heap.size + 8) (.deferred none)) := Mod.putObj (S := (· = w.heap.size + 8)) (Mod.refl _ _) (Or.inl rfl) _
    refine ⟨_, res3 _ _ _ _ _ _ _ _ rfl rfl rfl (cell_of_block (hmq.heap z0 (by omega)) 0 rfl) (cell_of_block (hmq.heap z1 (by omega)) 0 rfl) (cell_of_block (hmq.heap z2 (by omega)) 0 rfl), ?_⟩
    exact ⟨.inr ⟨hok.out, _, rfl, (hlines.out.mod hmz (fun b s => by omega)).mod hmq (fun b s => by omega)⟩, (hj.out.m.into hmz fun b s => Or.inr s.2).into hmq fun b s => Or.inr (by omega)⟩
  case stop =>
    rintro W hx hD
    rw [hsz] at hD ⊢
    obtain ⟨⟨j, a1, a2, a3, a4⟩, h0, h2', m⟩ := hx
    gi_wp2
    refine ⟨by simp, .inl ⟨_, _, rfl, run_takeDeferred hD, ?_⟩⟩
    have hm : Mod (· = w.heap.size + 8) W (W.putObj (w.heap.size + 8) (.deferred none)) := Mod.putObj (S := (· = w.heap.size + 8)) (Mod.refl _ _) (Or.inl rfl) _
    refine ⟨_, res3 _ _ _ _ _ _ _ _ rfl rfl rfl (cell_of_block (hm.heap h0 (by omega)) 0 rfl) (cell_of_block (hm.heap a4 (by omega)) 0 rfl) (cell_of_block (hm.heap h2' (by omega)) 0 rfl), ?_⟩
    exact ⟨.inl ⟨j, a1, a2, a3, rfl⟩, m.into hm fun b s => Or.inr (by omega)⟩
end Go.Proofs.YtdcmjjinmnbaoaaGreatDoor
namespace Go.Proofs.YtdcmjjinmnbaoaaGreatDoor
open Go.RowKit

def partsL (c : UInt8) (l : List UInt8) (k : Nat) : List (List UInt8) := (List.range k).map (partF c l)
theorem partsL_succ (c : UInt8) (l : List UInt8) (k : Nat) : partsL c l (k + 1) = partsL c l k ++ [partF c l k] := by simp [partsL, List.range_succ]

theorem bs_slice (l : List UInt8) (f i : Nat) : (bs l).extract f i = bs ((l.drop f).take (i - f)) := by
  apply ByteArray.ext
  simp [ByteArray.data_extract]

theorem upTo_at {l : List UInt8} {c : UInt8} {n : Nat} (h : l[n]? = some c) (hn : c ∉ l.take n) : upTo l c = l.take n := by
  induction l generalizing n with
  | nil => simp at h
  | cons b l ih =>
    cases n with
    | zero => simp at h; subst h; simp [upTo]
    | succ n =>
      simp at h hn
      have hb : (b != c) = true := by simpa using fun e => hn.1 e.symm
      unfold upTo
      rw [List.takeWhile_cons, if_pos hb, List.take_succ_cons]
      congr 1
      exact ih h hn.2

theorem StrsAt.strs {base : Nat} {W : World} {v : Value} {ws : List (List UInt8)} (h : StrsAt base W v ws) : W.ownsRow base 9 1 v ws.length (ws.map fun s => .string (bs s)) := h

theorem infoStr : (Tryz.prog.info? 9).map (fun i => (i.zero, i.size, i.bytes)) = some (some (.string ⟨#[]⟩), 1, 16) := by kernel_rfl

end Go.Proofs.YtdcmjjinmnbaoaaGreatDoor
namespace Go.Proofs.YtdcmjjinmnbaoaaGreatDoor
open Go.RowKit

theorem ne_of_32 {b c : UInt8} (h : 32 ≤ b.toNat) (hc : c.toNat < 32) : (b == c) = false := by
  simp only [beq_eq_false_iff_ne, ne_eq]
  intro e
  subst e
  omega
theorem isSp_ok {b : UInt8} (h : okB b = true) : Lib.isSp b = (b == 32 || b == 9) := by
  rw [okB_eq] at h
  by_cases h9 : b = 9
  · subst h9; rfl
  · have h9' : ¬ b.toNat = 9 := fun e => h9 (UInt8.toNat_inj.mp e)
    simp [h9'] at h
    unfold Lib.isSp
    rw [ne_of_32 h.1 (by decide : (9 : UInt8).toNat < 32), ne_of_32 h.1 (by decide : (10 : UInt8).toNat < 32), ne_of_32 h.1 (by decide : (11 : UInt8).toNat < 32), ne_of_32 h.1 (by decide : (12 : UInt8).toNat < 32), ne_of_32 h.1 (by decide : (13 : UInt8).toNat < 32)]
    simp

/-- What has been read of a word. -/
def readTo (l : List UInt8) (fr : Int) (i : Nat) (cur : List UInt8) : Prop := (fr = -1 ∧ cur = []) ∨ ∃ f : Nat, fr = f ∧ f < i ∧ cur = (l.drop f).take (i - f) ∧ cur ≠ []

theorem go_sp {cur r : List UInt8} {b : UInt8} (h : Lib.isSp b = true) : Lib.fieldsGo cur (b :: r) = (if cur = [] then [] else [cur]) ++ Lib.fieldsGo [] r := by
  rw [Lib.fieldsGo, if_pos h]
  cases cur <;> simp
theorem go_on {cur r : List UInt8} {b : UInt8} (h : Lib.isSp b = false) : Lib.fieldsGo cur (b :: r) = Lib.fieldsGo (cur ++ [b]) r := by
  rw [Lib.fieldsGo, if_neg (by simp [h])]
theorem go_end (cur : List UInt8) : Lib.fieldsGo cur [] = if cur = [] then [] else [cur] := by
  rw [Lib.fieldsGo]
  cases cur <;> simp

/-- A word more, or none. -/
theorem StrsAt.snoc {base : Nat} {W : World} {v : Value} {O : List (List UInt8)} {x : List UInt8} (h : W.ownsRow base 9 1 v (O.length + 1) ((O.map fun s => .string (bs s)) ++ [.string (bs x)])) : StrsAt base W v (O ++ [x]) := by
  show W.ownsRow _ _ _ _ _ _
  simpa using h

end Go.Proofs.YtdcmjjinmnbaoaaGreatDoor
namespace Go.Proofs.YtdcmjjinmnbaoaaGreatDoor
open Go.RowKit

theorem own_base {W : World} {b b' : Nat} {e : TypeId} {z : Nat} {v : Value} {n : Nat} {xs : List Value} (h : W.ownsRow b e z v n xs) (hb : b' ≤ b) : W.ownsRow b' e z v n xs := by
  refine ⟨h.1, ?_⟩
  rcases h.2 with h0 | ⟨g, cap, cur, hv, hg, r⟩
  · exact Or.inl h0
  · exact Or.inr ⟨g, cap, cur, hv, Nat.le_trans hb hg, r⟩

/-- A row of texts that is not empty: where it lies, its cells. -/
theorem StrsAt.open {base : Nat} {W : World} {v : Value} {ws : List (List UInt8)} (h : StrsAt base W v ws) (h0 : 0 < ws.length) : ∃ g cap, v = .slice (some ⟨g, 0, none⟩) ws.length cap ∧ base ≤ g ∧ ws.length ≤ cap ∧ ∀ j s, ws[j]? = some s → W.cell? ⟨g, j, none⟩ = some (.string (bs s)) := by
  rcases h.2 with ⟨_, h1⟩ | ⟨g, cap, cur, hv, hb, hg, hc, _, hsz, htk⟩
  · omega
  · refine ⟨g, cap, hv, hb, hc, fun j s hs => ?_⟩
    have hj : j < ws.length := (List.getElem?_eq_some_iff.mp hs).1
    have h2 : (cur.toList.take (ws.length * 1))[j]? = some (.string (bs s)) := by rw [htk, List.getElem?_map, hs]; rfl
    rw [Nat.mul_one, List.getElem?_take_of_lt hj, Array.getElem?_toList] at h2
    exact cell_of_block hg j h2

theorem own_len {W : World} {b : Nat} {e : TypeId} {z : Nat} {p : Option Addr} {n c m : Nat} {xs : List Value} (h : W.ownsRow b e z (.slice p n c) m xs) : n = m := by
  rcases h.2 with ⟨h1, h2⟩ | ⟨g, cap, cur, h1, _⟩
  · simp at h1; omega
  · simp at h1; exact h1.2.1

end Go.Proofs.YtdcmjjinmnbaoaaGreatDoor
namespace Go.Proofs.YtdcmjjinmnbaoaaGreatDoor
open Go.RowKit

theorem pairs_at {α : Type} (f g : α → Value) (E : List α) : ∀ j, (E.flatMap fun x => [f x, g x])[2 * j]? = E[j]?.map f ∧ (E.flatMap fun x => [f x, g x])[2 * j + 1]? = E[j]?.map g := by
  induction E with
  | nil => intro j; simp
  | cons x E ih =>
    intro j
    cases j with
    | zero => simp
    | succ j =>
      have := ih j
      rw [show 2 * (j + 1) = 2 * j + 1 + 1 by omega]
      simpa using this

/-- A row of lines: where it lies, what its cells are. -/
theorem LinesAt.open {T base : Nat} {W : World} {v : Value} {L : List (Nat × List (List UInt8))} (h : LinesAt T base W v L) : ∃ p cap, v = .slice p L.length cap ∧
    ∀ j x, L[j]? = some x → ∃ g u c, p = some ⟨g, 0, none⟩ ∧ W.cell? ⟨g, j * 2, none⟩ = some (.int .i64 x.1) ∧ W.cell? ⟨g, j * 2 + 1, none⟩ = some (.slice u x.2.length c) ∧ StrsAt base W (.slice u x.2.length c) x.2 := by
  obtain ⟨E, h1, h2, h3⟩ := h
  have hl : E.length = L.length := by rw [← h1]; simp
  rcases h2.2 with ⟨rfl, h0⟩ | ⟨g, cap, cur, rfl, hb, hg, hc, _, hsz, htk⟩
  · refine ⟨none, 0, by rw [← hl, h0], fun j x hx => ?_⟩
    have : j < L.length := (List.getElem?_eq_some_iff.mp hx).1
    omega
  · refine ⟨_, cap, by rw [hl], fun j x hx => ?_⟩
    rw [← h1, List.getElem?_map] at hx
    cases hE : E[j]? with
    | none => rw [hE] at hx; cases hx
    | some y =>
      rw [hE] at hx
      simp at hx
      subst hx
      have hj : j < E.length := (List.getElem?_eq_some_iff.mp hE).1
      have hs := h3 y (List.mem_of_getElem? hE)
      obtain ⟨u, n, c, hu⟩ := own_slice hs
      have hn : n = y.1.2.length := by rw [hu] at hs; exact own_len hs
      subst hn
      obtain ⟨p1, p2⟩ := pairs_at (fun x : (Nat × List (List UInt8)) × Value => .int .i64 x.1.1) (fun x => x.2) E j
      rw [hE] at p1 p2
      rw [← htk, List.getElem?_take_of_lt (by omega), Array.getElem?_toList] at p1 p2
      refine ⟨g, u, c, rfl, cell_of_block hg _ (by rw [Nat.mul_comm]; exact p1), cell_of_block hg _ (by rw [Nat.mul_comm]; rw [p2]; simp [hu]), by rw [← hu]; exact hs⟩

theorem words_len (l : List UInt8) (k : Nat) : (wordsOf l k).length ≤ l.length :=
  Nat.le_trans (fields_len _) (Nat.le_trans (upTo_le _ _) (Nat.le_trans (upTo_le _ _) (rest_len 10 l k)))

theorem linesTo_words (l : List UInt8) (k : Nat) : ∀ x ∈ linesTo l k, x.2.length ≤ l.length := by
  induction k with
  | zero => intro x hx; cases hx
  | succ k ih =>
    intro x hx
    unfold linesTo at hx
    rcases List.mem_append.mp hx with h | h
    · exact ih x h
    · split at h
      · simp at h; subst h; exact words_len l k
      · cases h

end Go.Proofs.YtdcmjjinmnbaoaaGreatDoor
namespace Go.Proofs.YtdcmjjinmnbaoaaGreatDoor
open Go.RowKit

/-- What the laws of chapter 5 take of the library's tables. -/
def LaidS (w : World) : Prop := Lib.TabIs Tryz.prog w "strings.asciiSpace" .u8 Lib.asciiSpaceTab
theorem gSpace : Tryz.prog.globalNamed "strings.asciiSpace" = some 0 := by kernel_rfl
theorem LaidS.mod {w w' : World} (h : LaidS w) (hm : Mod NoB w w') : LaidS w' := Mod.var hm gSpace id h

end Go.Proofs.YtdcmjjinmnbaoaaGreatDoor
namespace Go.Proofs.YtdcmjjinmnbaoaaGreatDoor
open Go.ChangeShapes Go.WideShapes Go.ChangeAt Go.RowKit

theorem laidS_of {W : World} {l : List (String × DataW Unit)} (hm : ("strings.asciiSpace", Rows.laid_strings_asciiSpace) ∈ l) (h : laidMet Tryz.prog l W) : LaidS W :=
  laid_tab gSpace (t := 93) (e := 5) (n := 256) (by kernel_rfl) Tryz.underlying93 Tryz.underlying5 (by kernel_rfl) (by kernel_rfl) h (by rw [show Lib.tabData .u8 Lib.asciiSpaceTab = Rows.laid_strings_asciiSpace by kernel_rfl]; exact hm)

theorem open_bs {H : Type} {enc : TypeId × Value → H} {P : Program} {w : World} {r : Reach} {b0 : Nat} {t : TypeId} {v : Value} {d : DataW H} {ps : List MemPlace} (ht : P.underlying t = some .string) (hval : Value.okWide P w r b0 t v) (hd : DataW.Trod enc P w 0 (fun _ => true) true t v d ps) :
    ∃ l : List UInt8, v = .string (bs l) ∧ l.length ≤ 9223372036854775807 := by
  obtain ⟨s, rfl, _, _, h⟩ := Go.ChangeMaps.open_string ht hval hd
  exact ⟨s.data.toList, rfl, h⟩
end Go.Proofs.YtdcmjjinmnbaoaaGreatDoor
namespace Go.Proofs.YtdcmjjinmnbaoaaGreatDoor
open Go.RowKit

theorem fieldsGo_word (l : List UInt8) (h : ∀ b ∈ l, Lib.isSp b = false) : ∀ cur, Lib.fieldsGo cur l = if cur ++ l = [] then [] else [cur ++ l] := by
  induction l with
  | nil => intro cur; rw [go_end]; simp
  | cons b l ih =>
    intro cur
    rw [go_on (h b (by simp)), ih (fun x hx => h x (by simp [hx])), List.append_assoc]
    rfl
theorem fields_word (l : List UInt8) (h : ∀ b ∈ l, Lib.isSp b = false) (h0 : l ≠ []) : Lib.fields l = [l] := by
  unfold Lib.fields
  rw [fieldsGo_word l h]
  simp [h0]

/-- Of a text without a byte 10 there is one line. -/
theorem one_part {l : List UInt8} (h : (10 : UInt8) ∉ l) : partsN 10 l = 1 ∧ partF 10 l 0 = l := ⟨by simp [partsN, List.count_eq_zero.mpr h], upTo_all h⟩
theorem linesTo_one {l : List UInt8} (h : (10 : UInt8) ∉ l) : linesTo l 1 = if 0 < (Lib.fields (upTo l 35)).length then [(1, Lib.fields (upTo l 35))] else [] := by
  show [] ++ (if 0 < (wordsOf l 0).length then [(0 + 1, wordsOf l 0)] else []) = _
  unfold wordsOf bare
  rw [(one_part h).2]
  simp
theorem okLine_one {l : List UInt8} (h : (10 : UInt8) ∉ l) : okLine l 0 = (upTo l 35).all okB := by unfold okLine bare; rw [(one_part h).2]

def longL (n : Nat) : List UInt8 := List.replicate n 97
theorem long_mem {n : Nat} {b : UInt8} (h : b ∈ longL n) : b = 97 := (List.mem_replicate.mp h).2
theorem long_bare (n : Nat) : upTo (longL n) 35 = longL n := upTo_all fun h => by have := long_mem h; revert this; decide
theorem long_ten (n : Nat) : (10 : UInt8) ∉ longL n := fun h => by have := long_mem h; revert this; decide
theorem long_ok (n : Nat) : okLine (longL n) 0 = true := by
  rw [okLine_one (long_ten n), long_bare, List.all_eq_true]
  intro b hb
  rw [long_mem hb]; rfl
theorem long_lines (n : Nat) (h : 0 < n) : linesTo (longL n) 1 = [(1, [longL n])] := by
  rw [linesTo_one (long_ten n), long_bare, fields_word _ (fun b hb => by rw [long_mem hb]; rfl) (by simp [longL]; omega)]
  simp
theorem long_len (n : Nat) : (longL n).length = n := by simp [longL]
theorem long_rep (n : Nat) : Lib.repeatL [97] n = longL n := by
  induction n with
  | zero => rfl
  | succ n ih => rw [Lib.repeatL, ih]; rfl
end Go.Proofs.YtdcmjjinmnbaoaaGreatDoor
namespace Go.Proofs.YtdcmjjinmnbaoaaGreatDoor
open Go.RowKit

theorem fieldsGo_word_len (l : List UInt8) : ∀ cur, ∀ x ∈ Lib.fieldsGo cur l, x.length ≤ cur.length + l.length := by
  induction l with
  | nil =>
    intro cur x hx
    rw [go_end] at hx
    split at hx
    · cases hx
    · simp at hx; subst hx; omega
  | cons b l ih =>
    intro cur x hx
    cases hb : Lib.isSp b with
    | true =>
      rw [go_sp hb] at hx
      rcases List.mem_append.mp hx with h | h
      · split at h
        · cases h
        · simp at h; subst h; omega
      · have := ih [] x h
        simp at this ⊢
        omega
    | false =>
      rw [go_on hb] at hx
      have := ih _ x hx
      simp at this ⊢
      omega
theorem fields_word_len (l : List UInt8) : ∀ x ∈ Lib.fields l, x.length ≤ l.length := fun x hx => by
  have := fieldsGo_word_len l [] x hx
  simpa using this
theorem wordsOf_word_len (l : List UInt8) (k : Nat) : ∀ x ∈ wordsOf l k, x.length ≤ l.length := fun x hx =>
  Nat.le_trans (fields_word_len _ x hx) (Nat.le_trans (upTo_le _ _) (Nat.le_trans (upTo_le _ _) (rest_len 10 l k)))
theorem linesTo_word_len (l : List UInt8) (k : Nat) : ∀ x ∈ linesTo l k, ∀ y ∈ x.2, y.length ≤ l.length := by
  induction k with
  | zero => intro x hx; cases hx
  | succ k ih =>
    intro x hx
    unfold linesTo at hx
    rcases List.mem_append.mp hx with h | h
    · exact ih x h
    · split at h
      · simp at h; subst h; exact wordsOf_word_len l k
      · cases h
theorem linesTo_pos (l : List UInt8) (k : Nat) : ∀ x ∈ linesTo l k, 0 < x.2.length := by
  induction k with
  | zero => intro x hx; cases hx
  | succ k ih =>
    intro x hx
    unfold linesTo at hx
    rcases List.mem_append.mp hx with h | h
    · exact ih x h
    · split at h
      · rename_i h0; simp at h; subst h; exact h0
      · cases h

theorem remark_bare {l r : List UInt8} : upTo (l ++ 35 :: r) 35 = upTo l 35 := by
  induction l with
  | nil => simp [upTo]
  | cons b l ih =>
    unfold upTo at ih ⊢
    rw [List.cons_append, List.takeWhile_cons, List.takeWhile_cons, ih]
theorem remark_ten {l r : List UInt8} (hl : (10 : UInt8) ∉ l) (hr : (10 : UInt8) ∉ r) : (10 : UInt8) ∉ l ++ 35 :: r := by
  simp [hl, hr]
theorem remark_lines {l r : List UInt8} (hl : (10 : UInt8) ∉ l) (hr : (10 : UInt8) ∉ r) : linesTo (l ++ 35 :: r) 1 = linesTo l 1 := by
  rw [linesTo_one hl, linesTo_one (remark_ten hl hr), remark_bare]
theorem remark_ok {l r : List UInt8} (hl : (10 : UInt8) ∉ l) (hr : (10 : UInt8) ∉ r) : okLine (l ++ 35 :: r) 0 = okLine l 0 := by
  rw [okLine_one hl, okLine_one (remark_ten hl hr), remark_bare]
theorem index_none {l : List UInt8} {c : UInt8} (h : c ∉ l) : decide (0 ≤ Lib.indexByte l c) = false := by
  rw [index_upTo, if_neg h]; rfl
theorem index_some {l : List UInt8} {c : UInt8} (h : c ∈ l) : decide (0 ≤ Lib.indexByte l c) = true := by
  rw [index_upTo, if_pos h]; simp

/-- How lex.Lines ends at a text of one line. -/
theorem lines_one (l : List UInt8) (hn : (10 : UInt8) ∉ l) (hl : l.length ≤ 65536) (w : World) (hL : LaidS w) :
    Calls Tryz.prog 19 #[.string (bs l)] w fun e w' => (if okLine l 0 then ∃ v, e = .returned (.tuple #[v, .int .i64 0, .int .i64 0]) ∧ LinesAt 58 (w.heap.size + 10) w' v (linesTo l 1) else e = .returned (.tuple #[.slice none 0 0, .int .i64 1, .int .i64 6])) ∧ Mod NoB w w' := by
  refine (lines_walk l hl w (fun W hm => hL.mod hm)).mono ?_
  rintro e w' ⟨(⟨j, a1, a2, _, h⟩ | ⟨a1, h⟩), hm⟩
  · rw [(one_part hn).1] at a1
    obtain rfl : j = 0 := by omega
    rw [if_neg (by simp [a2])]
    exact ⟨h, hm⟩
  · rw [(one_part hn).1] at a1 h
    rw [if_pos (a1 0 (by omega))]
    exact ⟨h, hm⟩
end Go.Proofs.YtdcmjjinmnbaoaaGreatDoor
namespace Go.Proofs.YtdcmjjinmnbaoaaGreatDoor
open Go.RowKit

theorem restF_add (c : UInt8) (l : List UInt8) (m : Nat) : ∀ k, restF c l (m + k) = restF c (restF c l m) k := by
  intro k
  induction k with
  | zero => rfl
  | succ k ih =>
    show (restF c l (m + k)).drop ((upTo (restF c l (m + k)) c).length + 1) = (restF c (restF c l m) k).drop _
    rw [ih]
theorem upTo_app {a b : List UInt8} : upTo (a ++ 10 :: b) 10 = upTo a 10 := by
  induction a with
  | nil => simp [upTo]
  | cons x a ih =>
    unfold upTo at ih ⊢
    rw [List.cons_append, List.takeWhile_cons, List.takeWhile_cons, ih]
theorem rest_app {a b : List UInt8} : ∀ k, k ≤ a.count 10 → restF 10 (a ++ 10 :: b) k = restF 10 a k ++ 10 :: b := by
  intro k
  induction k with
  | zero => intro _; rfl
  | succ k ih =>
    intro hk
    have h := rest_count 10 a k (by omega)
    have hm : (10 : UInt8) ∈ restF 10 a k := List.count_pos_iff.mp (by omega)
    have hl := upTo_lt hm
    show (restF 10 (a ++ 10 :: b) k).drop ((upTo (restF 10 (a ++ 10 :: b) k) 10).length + 1) = (restF 10 a k).drop ((upTo (restF 10 a k) 10).length + 1) ++ 10 :: b
    rw [ih (by omega), upTo_app, List.drop_append_of_le_length (by omega)]
theorem rest_join {a b : List UInt8} : restF 10 (a ++ 10 :: b) (partsN 10 a) = b := by
  have h := rest_count 10 a (a.count 10) (Nat.le_refl _)
  have hn : (10 : UInt8) ∉ restF 10 a (a.count 10) := fun hm => by have := List.count_pos_iff.mpr hm; omega
  show (restF 10 (a ++ 10 :: b) (a.count 10)).drop ((upTo (restF 10 (a ++ 10 :: b) (a.count 10)) 10).length + 1) = b
  rw [rest_app _ (Nat.le_refl _), upTo_app, upTo_all hn]
  simp
theorem part_low {a b : List UInt8} {k : Nat} (hk : k < partsN 10 a) : partF 10 (a ++ 10 :: b) k = partF 10 a k := by
  unfold partF
  rw [rest_app k (by simp only [partsN] at hk; omega), upTo_app]
theorem part_high {a b : List UInt8} (k : Nat) : partF 10 (a ++ 10 :: b) (partsN 10 a + k) = partF 10 b k := by
  unfold partF
  rw [restF_add, rest_join]
theorem parts_join {a b : List UInt8} : partsN 10 (a ++ 10 :: b) = partsN 10 a + partsN 10 b := by
  simp [partsN, List.count_append]; omega
theorem lines_low {a b : List UInt8} : ∀ k, k ≤ partsN 10 a → linesTo (a ++ 10 :: b) k = linesTo a k := by
  intro k
  induction k with
  | zero => intro _; rfl
  | succ k ih =>
    intro hk
    have hw : wordsOf (a ++ 10 :: b) k = wordsOf a k := by unfold wordsOf bare; rw [part_low (by omega)]
    show linesTo (a ++ 10 :: b) k ++ _ = linesTo a k ++ _
    rw [ih (by omega), hw]
def behind (n : Nat) (L : List (Nat × List (List UInt8))) : List (Nat × List (List UInt8)) := L.map fun x => (x.1 + n, x.2)
theorem lines_high {a b : List UInt8} : ∀ k, linesTo (a ++ 10 :: b) (partsN 10 a + k) = linesTo a (partsN 10 a) ++ behind (partsN 10 a) (linesTo b k) := by
  intro k
  induction k with
  | zero => simp [lines_low _ (Nat.le_refl _), linesTo, behind]
  | succ k ih =>
    have hw : wordsOf (a ++ 10 :: b) (partsN 10 a + k) = wordsOf b k := by unfold wordsOf bare; rw [part_high]
    show linesTo (a ++ 10 :: b) (partsN 10 a + k) ++ (if 0 < (wordsOf (a ++ 10 :: b) (partsN 10 a + k)).length then [(partsN 10 a + k + 1, wordsOf (a ++ 10 :: b) (partsN 10 a + k))] else []) = _ ++ behind _ (linesTo b k ++ (if 0 < (wordsOf b k).length then [(k + 1, wordsOf b k)] else []))
    rw [ih, hw, behind, behind, List.map_append, List.append_assoc]
    congr 2
    split
    · simp; omega
    · rfl
theorem lines_join {a b : List UInt8} : linesTo (a ++ 10 :: b) (partsN 10 (a ++ 10 :: b)) = linesTo a (partsN 10 a) ++ behind (partsN 10 a) (linesTo b (partsN 10 b)) := by
  rw [parts_join, lines_high]
theorem ok_join {a b : List UInt8} (ha : ∀ i, i < partsN 10 a → okLine a i = true) (hb : ∀ i, i < partsN 10 b → okLine b i = true) : ∀ i, i < partsN 10 (a ++ 10 :: b) → okLine (a ++ 10 :: b) i = true := by
  intro i hi
  rw [parts_join] at hi
  by_cases h : i < partsN 10 a
  · have : okLine (a ++ 10 :: b) i = okLine a i := by unfold okLine bare; rw [part_low h]
    rw [this]; exact ha i h
  · obtain ⟨k, rfl⟩ : ∃ k, i = partsN 10 a + k := ⟨i - partsN 10 a, by omega⟩
    have : okLine (a ++ 10 :: b) (partsN 10 a + k) = okLine b k := by unfold okLine bare; rw [part_high]
    rw [this]; exact hb k (by omega)
theorem countByte_eq (l : List UInt8) (c : UInt8) : Lib.countByte l c = l.count c := rfl
theorem linesTo_num (l : List UInt8) (k : Nat) : ∀ x ∈ linesTo l k, x.1 ≤ k := by
  induction k with
  | zero => intro x hx; cases hx
  | succ k ih =>
    intro x hx
    unfold linesTo at hx
    rcases List.mem_append.mp hx with h | h
    · have := ih x h; omega
    · split at h
      · simp at h; subst h; exact Nat.le_refl _
      · cases h
end Go.Proofs.YtdcmjjinmnbaoaaGreatDoor
namespace Go.Proofs.YtdcmjjinmnbaoaaGreatDoor
open Go.RowKit

def isDig (b : UInt8) : Bool := decide (48 ≤ b.toNat) && decide (b.toNat ≤ 57)
def decFromV (n : Nat) (l : List UInt8) : Nat := l.foldl (fun n b => 10 * n + (b.toNat - 48)) n
/-- What digits spell. -/
def decV (l : List UInt8) : Nat := decFromV 0 l
/-- Is it a number's text? -/
def numB (l : List UInt8) : Bool := !l.isEmpty && l.all isDig && !(decide (1 < l.length) && decide (l.head? = some 48))
/-- What is told of a word: the number, the error. -/
def numR (l : List UInt8) : Int × Int := if numB l = true then (if 1000000000 < decV l then (0, 3) else ((decV l : Nat), 0)) else (0, 6)

theorem decFromV_cons (n : Nat) (b : UInt8) (l : List UInt8) : decFromV n (b :: l) = decFromV (10 * n + (b.toNat - 48)) l := by simp only [decFromV, List.foldl_cons]
theorem decFromV_le (l : List UInt8) : ∀ n, n ≤ decFromV n l := by
  induction l with
  | nil => intro n; exact Nat.le_refl _
  | cons b l ih => intro n; rw [decFromV_cons]; have := ih (10 * n + (b.toNat - 48)); omega
theorem decFromV_app (l : List UInt8) : ∀ n b, decFromV n (l ++ [b]) = 10 * decFromV n l + (b.toNat - 48) := by
  induction l with
  | nil => intro n b; rfl
  | cons c l ih => intro n b; rw [List.cons_append, decFromV_cons, ih, decFromV_cons]
theorem decFromV_apps (l m : List UInt8) (n : Nat) : decFromV n (l ++ m) = decFromV (decFromV n l) m := by simp [decFromV]

theorem parse_dig (l : List UInt8) (h : l.all isDig = true) : ∀ acc, acc < 18446744073709551616 → Lib.parseUint10 acc l = if decFromV acc l < 18446744073709551616 then .ok (decFromV acc l) else .range := by
  induction l with
  | nil => intro acc ha; simp [Lib.parseUint10, decFromV, ha]
  | cons b l ih =>
    intro acc ha
    simp only [List.all_cons, Bool.and_eq_true] at h
    have hb : 48 ≤ b.toNat ∧ b.toNat ≤ 57 := by have := h.1; simp [isDig] at this; exact this
    rw [Lib.parseUint10, if_pos hb, decFromV_cons]
    have hle := decFromV_le l (10 * acc + (b.toNat - 48))
    by_cases h1 : 1844674407370955162 ≤ acc
    · rw [if_pos h1, if_neg (by omega)]
    · rw [if_neg h1]
      by_cases h2 : 18446744073709551616 ≤ acc * 10 + (b.toNat - 48)
      · rw [if_pos h2, if_neg (by omega)]
      · rw [if_neg h2, ih h.2 _ (by omega), Nat.mul_comm acc 10]

theorem atoi_dig (l : List UInt8) (h0 : l ≠ []) (h : l.all isDig = true) : Lib.atoiAll l = if decV l < 9223372036854775808 then .ok (decV l : Int) else .range := by
  cases l with
  | nil => exact absurd rfl h0
  | cons c r =>
    have hc : 48 ≤ c.toNat ∧ c.toNat ≤ 57 := by have := h; simp [isDig] at this; exact this.1
    rw [Lib.atoiAll_plain c r (by omega) (by omega), Lib.parseMag, if_neg (by simp), parse_dig (c :: r) h 0 (by omega)]
    show Lib.signless (if decV (c :: r) < _ then .ok (decV (c :: r)) else .range) = _
    by_cases h1 : decV (c :: r) < 9223372036854775808
    · rw [if_pos (by omega), if_pos h1, Lib.signless, if_neg (by omega)]
    · rw [if_neg h1]
      by_cases h2 : decV (c :: r) < 18446744073709551616
      · rw [if_pos h2, Lib.signless, if_pos (by omega)]
      · rw [if_neg h2]; rfl

def digits10 : List UInt8 := [48, 49, 50, 51, 52, 53, 54, 55, 56, 57]
theorem digits_mem (b : UInt8) : digits10.contains b = isDig b := by
  have h : ∀ n, n < 256 → digits10.contains (UInt8.ofNat n) = isDig (UInt8.ofNat n) := by decide +kernel
  have := h b.toNat b.toNat_lt
  rwa [UInt8.ofNat_toNat] at this
theorem dropAll {p : UInt8 → Bool} (l : List UInt8) : List.dropWhile p l = [] ↔ ∀ b ∈ l, p b = true := by
  induction l with
  | nil => simp
  | cons b l ih =>
    rw [List.dropWhile_cons]
    cases hb : p b <;> simp [hb, ih]
theorem trim_dig (l : List UInt8) : Lib.trimS l digits10 = [] ↔ l.all isDig = true := by
  unfold Lib.trimS Lib.trimLeftS Lib.trimRightS
  have hf : (fun b => digits10.contains b) = isDig := funext digits_mem
  rw [hf]
  constructor
  · intro h
    have h1 : ∀ b ∈ (List.dropWhile isDig l.reverse).reverse, isDig b = true := by
      rw [dropAll] at h
      exact h
    have h2 : List.dropWhile isDig l.reverse = [] := by
      cases hd : List.dropWhile isDig l.reverse with
      | nil => rfl
      | cons b r =>
        have h3 := List.head_dropWhile_not isDig (l := l.reverse) (by rw [hd]; simp)
        simp only [hd, List.head_cons] at h3
        have := h1 b (by rw [hd]; simp)
        rw [h3] at this
        cases this
    rw [dropAll] at h2
    rw [List.all_eq_true]
    intro b hb
    exact h2 b (by simpa using hb)
  · intro h
    rw [List.all_eq_true] at h
    have h2 : List.dropWhile isDig l.reverse = [] := by
      rw [dropAll]
      intro b hb
      exact h b (by simpa using hb)
    rw [h2]
    rfl
end Go.Proofs.YtdcmjjinmnbaoaaGreatDoor
namespace Go.Proofs.YtdcmjjinmnbaoaaGreatDoor
open Go.RowKit

/-- What numbers take of the library's variables. -/
structure LaidN (w : World) : Prop where
  s : LaidS w
  pow : Lib.TabIs Tryz.prog w "internal/strconv.uint64pow10" .u64 Lib.pow10Tab
  err : ∃ tp p, w.var? Tryz.prog "strconv.ErrRange" = some #[.iface tp p]
theorem gPow : Tryz.prog.globalNamed "internal/strconv.uint64pow10" = some 5 := by kernel_rfl
theorem gErrR : Tryz.prog.globalNamed "strconv.ErrRange" = some 7 := by kernel_rfl
theorem LaidN.mod {w w' : World} (h : LaidN w) (hm : Mod NoB w w') : LaidN w' :=
  ⟨h.s.mod hm, Mod.var hm gPow id h.pow, let ⟨tp, p, e⟩ := h.err; ⟨tp, p, Mod.var hm gErrR id e⟩⟩

theorem trimw_any (l : List UInt8) (w : World) (hl : l.length ≤ 9223372036854775807) :
    Calls Tryz.prog 52 #[.string (bs l), .string ⟨#[48, 49, 50, 51, 52, 53, 54, 55, 56, 57]⟩] w fun e w' => e = .returned (.string (bs (Lib.trimS l digits10))) ∧ Mod NoB w w' :=
  (Any.strings_Trim_laid Tryz.lays160 (by kernel_rfl) (bs l) ⟨#[48, 49, 50, 51, 52, 53, 54, 55, 56, 57]⟩ w hl (by decide) (ascii_of_all (by decide))).mono fun _ _ ⟨h1, h2⟩ => ⟨h1, Below.mod h2⟩

/-- strconv.Atoi at digits: what stands beside an error is not looked at. -/
def AtoiOut (w : World) (l : List UInt8) (e : Ending) (w' : World) : Prop :=
  (if decV l < 9223372036854775808 then e = .returned (.tuple #[.int .i64 (decV l : Nat), .nilIface]) else ∃ (x : Int) (t : TypeId) (p : Value), e = .returned (.tuple #[.int .i64 x, .iface t p])) ∧ Mod NoB w w'
theorem atoiw_any (l : List UInt8) (w : World) (hl : l.length ≤ 1000000) (h0 : l ≠ []) (hd : l.all isDig = true) (hL : LaidN w) :
    Calls Tryz.prog 53 #[.string (bs l)] w (AtoiOut w l) := by
  have ha := atoi_dig l h0 hd
  by_cases h : decV l < 9223372036854775808
  · rw [if_pos h] at ha
    refine (Tryz.strconv_Atoi_ok (bs l) (by show l.length ≤ _; omega) _ ha w).mono ?_
    rintro e w' ⟨rfl, hw⟩
    refine ⟨by rw [if_pos h], ?_⟩
    rcases hw with rfl | ⟨t, rfl⟩
    · exact Mod.refl _ _
    · exact Below.mod (Lib.bytesWorld_below _ _ _)
  · rw [if_neg h] at ha
    obtain ⟨tp, p, hv⟩ := hL.err
    refine (Tryz.strconv_Atoi_range_var (bs l) (by show l.length ≤ _; omega) ha tp p w hv).mono ?_
    rintro e w' ⟨N, rfl, _, _, hb⟩
    exact ⟨by rw [if_neg h]; exact ⟨_, _, _, rfl⟩, Below.mod hb⟩

theorem numR_no {l : List UInt8} (h : numB l = false) : numR l = (0, 6) := by simp [numR, h]
theorem numR_far {l : List UInt8} (h : numB l = true) (h2 : 1000000000 < decV l) : numR l = (0, 3) := by simp [numR, h, h2]
theorem numR_ok {l : List UInt8} (h : numB l = true) (h2 : ¬ 1000000000 < decV l) : numR l = (((decV l : Nat) : Int), 0) := by unfold numR; rw [if_pos h, if_neg h2]
theorem ret2 {a b c d : Int} (h : a = c) (h2 : b = d) : Ending.returned (.tuple #[.int .i64 a, .int .i64 b]) = .returned (.tuple #[.int .i64 c, .int .i64 d]) := by rw [h, h2]

set_option maxRecDepth 100000 in
set_option maxHeartbeats 4000000 in
theorem number_any (l : List UInt8) (w : World) (hl : l.length ≤ 1000000) (hL : LaidN w) :
    Calls Tryz.prog 39 #[.string (bs l)] w fun e w' => e = .returned (.tuple #[.int .i64 (numR l).1, .int .i64 (numR l).2]) ∧ Mod NoB w w' := by
  have ht := trimw_any l w (by omega)
  obtain ⟨r1, r2, hr⟩ : ∃ r1 r2, numR l = (r1, r2) := ⟨_, _, rfl⟩
  rw [hr]
  replace hr := hide hr
  show Calls _ _ _ _ fun e w' => e = .returned (.tuple #[.int .i64 r1, .int .i64 r2]) ∧ Mod NoB w w'
  by_cases h0 : l = []
  · subst h0
    clear ht
    have hr2 : Hid (((0 : Int), (6 : Int)) = (r1, r2)) := hide hr.out
    go_enter Tryz.func39, Tryz.ntmps39
    go_wp2
    go_ret2
    cases hr2.out
    exact ⟨rfl, Mod.refl _ _⟩
  · have hne : l.isEmpty = false := by simpa using h0
    have hlen : 0 < l.length := by cases l <;> simp_all
    cases hd : l.all isDig with
    | false =>
      have hte : (Lib.trimS l digits10).isEmpty = false := by
        rw [List.isEmpty_eq_false_iff]
        intro h
        rw [(trim_dig l).1 h] at hd
        cases hd
      have hr2 : Hid (((0 : Int), (6 : Int)) = (r1, r2)) := hide (by rw [← hr.out]; exact (numR_no (by simp [numB, hd])).symm)
      generalize Lib.trimS l digits10 = t at ht hte
      replace ht := hide ht
      clear hd h0
      go_enter Tryz.func39, Tryz.ntmps39
      go_wp2_with fail
      refine ht.out.mono ?_
      rintro e w1 ⟨rfl, hm⟩
      replace hm := hide hm
      go_wp2
      go_ret2
      cases hr2.out
      exact ⟨rfl, hm.out⟩
    | true =>
      have hte := (trim_dig l).2 hd
      rw [hte] at ht
      replace ht := hide ht
      have hat := fun w' (h : Mod NoB w w') => atoiw_any l w' hl h0 hd (hL.mod h)
      replace hat := hide hat
      obtain ⟨b, hb⟩ : ∃ b, l[0]? = some b := ⟨l[0], by simp [hlen]⟩
      have hbi : ∀ h : 0 < (bs l).size, (bs l)[0]'h = b := fun h => (List.getElem?_eq_some_iff.mp hb).2
      have hhd : l.head? = some b := by rw [← hb]; cases l <;> rfl
      have hnb : numB l = !(decide (1 < l.length) && decide (b = 48)) := by
        unfold numB
        rw [hne, hd, hhd]
        simp
      clear hte
      replace hnb := hide hnb
      replace hhd := hide hhd
      clear hb
      by_cases h1 : 1 < l.length
      · by_cases h48 : b = 48
        · have hr2 : Hid (((0 : Int), (6 : Int)) = (r1, r2)) := hide (by rw [← hr.out]; exact (numR_no (by rw [hnb.out]; simp [h1, h48])).symm)
          subst h48
          have h48 : ((UInt8.toNat 48 : Nat) : Int) = 48 := rfl
          clear hat h0 hd
          go_enter Tryz.func39, Tryz.ntmps39
          go_wp2_with fail
          refine ht.out.mono ?_
          rintro e w1 ⟨rfl, hm⟩
          replace hm := hide hm
          go_wp2
          go_ret2
          cases hr2.out
          exact ⟨rfl, hm.out⟩
        · have h48b : ((b.toNat : Int) == 48) = false := by
            simp
            intro e
            exact h48 (UInt8.toNat_inj.mp (by show b.toNat = 48; omega))
          have hnt : numB l = true := by rw [hnb.out]; simp [h48]
          have hok : Hid (¬ 1000000000 < decV l → (((decV l : Nat) : Int), (0 : Int)) = (r1, r2)) := hide fun h => by rw [← hr.out]; exact (numR_ok hnt h).symm
          have hfar : Hid (1000000000 < decV l → ((0 : Int), (3 : Int)) = (r1, r2)) := hide fun h => by rw [← hr.out]; exact (numR_far hnt h).symm
          clear hnt h0 hd
          go_enter Tryz.func39, Tryz.ntmps39
          go_wp2_with fail
          refine ht.out.mono ?_
          rintro e w1 ⟨rfl, hm⟩
          replace hm := hide hm
          go_wp2_with fail
          refine (hat.out _ hm.out).mono ?_
          rintro e w2 ⟨ho, hm2⟩
          replace hm := hide (hm.out.trans hm2)
          clear hm2 hat ht
          generalize decV l = v at ho hok hfar
          by_cases hv : v < 9223372036854775808
          · rw [if_pos hv] at ho
            subst ho
            by_cases hv9 : 1000000000 < v
            · go_wp2
              go_ret2
              cases hfar.out hv9
              exact ⟨rfl, hm.out⟩
            · go_wp2
              go_ret2
              cases hok.out hv9
              exact ⟨rfl, hm.out⟩
          · rw [if_neg hv] at ho
            obtain ⟨x, t, p, rfl⟩ := ho
            have hv9 : 1000000000 < v := by omega
            go_wp2
            go_ret2
            cases hfar.out hv9
            exact ⟨rfl, hm.out⟩
      · have hlt : ¬ ((1 : Int) < (l.length : Int)) := by omega
        have hnt : numB l = true := by rw [hnb.out]; simp [h1]
        have hok : Hid (¬ 1000000000 < decV l → (((decV l : Nat) : Int), (0 : Int)) = (r1, r2)) := hide fun h => by rw [← hr.out]; exact (numR_ok hnt h).symm
        have hfar : Hid (1000000000 < decV l → ((0 : Int), (3 : Int)) = (r1, r2)) := hide fun h => by rw [← hr.out]; exact (numR_far hnt h).symm
        clear hnt h0 hd
        go_enter Tryz.func39, Tryz.ntmps39
        go_wp2_with fail
        refine ht.out.mono ?_
        rintro e w1 ⟨rfl, hm⟩
        replace hm := hide hm
        go_wp2_with fail
        refine (hat.out _ hm.out).mono ?_
        rintro e w2 ⟨ho, hm2⟩
        replace hm := hide (hm.out.trans hm2)
        clear hm2 hat ht
        generalize decV l = v at ho hok hfar
        by_cases hv : v < 9223372036854775808
        · rw [if_pos hv] at ho
          subst ho
          by_cases hv9 : 1000000000 < v
          · go_wp2
            go_ret2
            cases hfar.out hv9
            exact ⟨rfl, hm.out⟩
          · go_wp2
            go_ret2
            cases hok.out hv9
            exact ⟨rfl, hm.out⟩
        · rw [if_neg hv] at ho
          obtain ⟨x, t, p, rfl⟩ := ho
          have hv9 : 1000000000 < v := by omega
          go_wp2
          go_ret2
          cases hfar.out hv9
          exact ⟨rfl, hm.out⟩

/-- A number that has stopped growing past the greatest one. -/
def NSat (d : Nat) (n : Int) : Prop := (d ≤ 1000000000 ∧ n = d) ∨ (1000000000 < d ∧ 1000000000 < n ∧ n ≤ 10000000009)
theorem NSat.step {d : Nat} {n : Int} (h : NSat d n) (hn : n ≤ 1000000000) (k : Nat) (hk : k ≤ 9) : NSat (10 * d + k) (10 * n + k) := by
  rcases h with ⟨h1, h2⟩ | ⟨h1, h2, h3⟩
  · subst h2
    by_cases h : 10 * d + k ≤ 1000000000
    · exact Or.inl ⟨h, by omega⟩
    · exact Or.inr ⟨by omega, by omega, by omega⟩
  · omega
theorem NSat.stay {d : Nat} {n : Int} (h : NSat d n) (hn : ¬ n ≤ 1000000000) (k : Nat) : NSat (10 * d + k) n := by
  rcases h with ⟨h1, h2⟩ | ⟨h1, h2, h3⟩
  · omega
  · exact Or.inr ⟨by omega, h2, h3⟩
theorem decV_snoc {l : List UInt8} {i : Nat} {b : UInt8} (h : l[i]? = some b) : decV (l.take (i + 1)) = 10 * decV (l.take i) + (b.toNat - 48) := by
  rw [List.take_add_one, h]
  exact decFromV_app _ _ _

end Go.Proofs.YtdcmjjinmnbaoaaGreatDoor
namespace Go.Proofs.YtdcmjjinmnbaoaaGreatDoor
open Go.RowKit

/-- A number's text. -/
def textOf (n : Int) : List UInt8 := if n < 0 ∨ 1000000000 < n then [] else Lib.decDigits n.toNat

theorem itoaw_any (n : Int) (h0 : -9223372036854775808 ≤ n) (h1 : n ≤ 9223372036854775807) (w : World) (hL : LaidN w) :
    Calls Tryz.prog 27 #[.int .i64 n] w fun e w' => e = .returned (.string (bs (Lib.itoa n))) ∧ Mod NoB w w' :=
  (Tryz.strconv_Itoa n h0 h1 w hL.pow).mono fun _ _ ⟨h1, k, os, h2⟩ => ⟨h1, by rw [h2]; exact ((Mod.refl NoB w).drewN k).grow os⟩

set_option maxHeartbeats 2000000 in
theorem text_any (n : Int) (h0 : -9223372036854775808 ≤ n) (h1 : n ≤ 9223372036854775807) (w : World) (hL : LaidN w) :
    Calls Tryz.prog 14 #[.int .i64 n] w fun e w' => e = .returned (.string (bs (textOf n))) ∧ Mod NoB w w' := by
  by_cases h : n < 0 ∨ 1000000000 < n
  · have ht : textOf n = [] := by simp [textOf, h]
    rw [ht]
    rcases h with h | h
    · go_enter Tryz.func14, Tryz.ntmps14
      go_wp2
      go_ret
      exact ⟨rfl, Mod.refl _ _⟩
    · have h' : ¬ n < 0 := by omega
      go_enter Tryz.func14, Tryz.ntmps14
      go_wp2
      go_ret
      exact ⟨rfl, Mod.refl _ _⟩
  · have ht : textOf n = Lib.itoa n := by unfold textOf Lib.itoa; rw [if_neg h, if_neg (by omega)]
    rw [ht]
    have hi := hide (itoaw_any n h0 h1 w hL)
    have h2 : ¬ n < 0 := by omega
    have h3 : ¬ 1000000000 < n := by omega
    clear h ht
    go_enter Tryz.func14, Tryz.ntmps14
    go_wp2_with fail
    refine hi.out.mono ?_
    rintro e w1 ⟨rfl, hm⟩
    replace hm := hide hm
    go_wp2
    go_ret
    exact ⟨rfl, hm.out⟩

theorem run_convB (x : Int) (w : World) :
    (convert 39 9 (.slice (some ⟨w.heap.size, 0, none⟩) 1 1)).run Tryz.prog (w.alloc (.cells #[.int .u8 x] 5)) = .ok (.string ⟨#[UInt8.ofNat x.toNat]⟩) (w.alloc (.cells #[.int .u8 x] 5)) := by
  have h := run_convert_bytes_arg (P := Tryz.prog) (w.alloc (.cells #[.int .u8 x] 5)) 39 5 Tryz.underlying39 Tryz.underlying5 w.heap.size 0 1 1 [x] rfl
    (fun i hi => by
      obtain rfl : i = 0 := by omega
      exact cell_of_block (heap_alloc_new w _) 0 rfl) 9 Tryz.underlying9
  exact h
def lenOfV : Value → Nat | .string t => t.size | _ => 0
theorem decDigits_len (u : Nat) : (Lib.decDigits u).length ≤ u + 1 := by
  induction u using Nat.strongRecOn with
  | _ u ih =>
    rw [Lib.decDigits]
    split
    · simp
    · have := ih (u / 10) (by omega)
      simp
      omega
theorem bs_app (a b : List UInt8) : bs a ++ bs b = bs (a ++ b) := by
  apply ByteArray.ext
  simp

end Go.Proofs.YtdcmjjinmnbaoaaGreatDoor
namespace Go.Proofs.YtdcmjjinmnbaoaaGreatDoor
open Go.RowKit

theorem dig_of {u : Nat} (h : u < 10) : isDig (UInt8.ofNat (48 + u)) = true ∧ (UInt8.ofNat (48 + u)).toNat = 48 + u := by
  have h2 : (UInt8.ofNat (48 + u)).toNat = 48 + u := by simp; omega
  refine ⟨?_, h2⟩
  unfold isDig
  rw [h2]
  simp; omega
/-- What is asked of a number's digits. -/
structure DigOk (u : Nat) (l : List UInt8) : Prop where
  ne : l ≠ []
  all : l.all isDig = true
  val : decV l = u
  head : 1 < l.length → l.head? ≠ some 48
  zero : l.head? = some 48 → u = 0
theorem decDigits_ok (u : Nat) : DigOk u (Lib.decDigits u) := by
  induction u using Nat.strongRecOn with
  | _ u ih =>
    rw [Lib.decDigits]
    split
    · rename_i h
      obtain ⟨d1, d2⟩ := dig_of h
      refine ⟨by simp, by rw [List.all_cons, d1]; rfl, ?_, by simp, ?_⟩
      · show decFromV 0 [_] = u
        rw [decFromV_cons, d2]
        show 10 * 0 + (48 + u - 48) = u
        omega
      · intro e
        simp only [List.head?_cons, Option.some.injEq] at e
        have := congrArg UInt8.toNat e
        rw [d2] at this
        have h48 : (48 : UInt8).toNat = 48 := rfl
        omega
    · rename_i h
      have hi := ih (u / 10) (by omega)
      obtain ⟨d1, d2⟩ := dig_of (u := u % 10) (by omega)
      have hh : (Lib.decDigits (u / 10) ++ [UInt8.ofNat (48 + u % 10)]).head? = (Lib.decDigits (u / 10)).head? := by
        have := hi.ne
        cases hd : Lib.decDigits (u / 10) with
        | nil => exact absurd hd this
        | cons b r => rfl
      have hz : (Lib.decDigits (u / 10)).head? ≠ some 48 := fun e => by have := hi.zero e; omega
      refine ⟨by simp, by rw [List.all_append, hi.all, List.all_cons, d1]; rfl, ?_, fun _ => by rw [hh]; exact hz, fun e => absurd (hh ▸ e) hz⟩
      show decFromV 0 (_ ++ [_]) = u
      rw [decFromV_app, d2]
      have := hi.val
      unfold decV at this
      rw [this]
      omega
theorem numB_dec (u : Nat) : numB (Lib.decDigits u) = true := by
  obtain ⟨h1, h2, h3, h4, h5⟩ := decDigits_ok u
  unfold numB
  rw [h2]
  simp only [Bool.and_true, Bool.and_eq_true, Bool.not_eq_true', List.isEmpty_eq_false_iff]
  refine ⟨h1, ?_⟩
  by_cases h : 1 < (Lib.decDigits u).length
  · simp [h4 h]
  · simp [h]
theorem numR_text {n : Int} (h0 : 0 ≤ n) (h1 : n ≤ 1000000000) : numR (textOf n) = (n, 0) := by
  have ht : textOf n = Lib.decDigits n.toNat := by unfold textOf; rw [if_neg (by omega)]
  rw [ht, numR_ok (numB_dec _) (by rw [(decDigits_ok n.toNat).val]; omega), (decDigits_ok n.toNat).val]
  congr 1
  omega
theorem text_ne {n : Int} (h0 : 0 ≤ n) (h1 : n ≤ 1000000000) : textOf n ≠ [] := by
  have ht : textOf n = Lib.decDigits n.toNat := by unfold textOf; rw [if_neg (by omega)]
  rw [ht]; exact (decDigits_ok _).ne
theorem text_none {n : Int} (h : n < 0 ∨ 1000000000 < n) : textOf n = [] := by unfold textOf; rw [if_pos h]

theorem dec_uniq : ∀ (n : Nat) (l : List UInt8), l.length = n → l ≠ [] → l.all isDig = true → (1 < l.length → l.head? ≠ some 48) → Lib.decDigits (decV l) = l := by
  intro n
  induction n with
  | zero => intro l hl h0; exact absurd (List.eq_nil_of_length_eq_zero hl) h0
  | succ n ih =>
    intro l hl h0 hd hh
    have hsp := List.dropLast_concat_getLast h0
    generalize l.getLast h0 = b at hsp
    generalize hm : l.dropLast = m at hsp
    subst hsp
    clear hm
    simp only [List.all_append, List.all_cons, List.all_nil, Bool.and_true, Bool.and_eq_true] at hd
    have hb : 48 ≤ b.toNat ∧ b.toNat ≤ 57 := by have := hd.2; simp [isDig] at this; exact this
    have hbb : UInt8.ofNat (48 + (b.toNat - 48)) = b := by rw [show 48 + (b.toNat - 48) = b.toNat by omega]; exact UInt8.ofNat_toNat
    have hv : decV (m ++ [b]) = 10 * decV m + (b.toNat - 48) := decFromV_app _ _ _
    by_cases hm0 : m = []
    · subst hm0
      rw [hv, show decV [] = 0 from rfl, Lib.decDigits, dif_pos (by omega)]
      simp only [Nat.mul_zero, Nat.zero_add, List.nil_append, hbb]
    · have hlen : 1 ≤ m.length := List.length_pos_iff.2 hm0
      have hmh : (m ++ [b]).head? = m.head? := by
        cases m with
        | nil => exact absurd rfl hm0
        | cons c r => rfl
      have hh1 : m.head? ≠ some 48 := by rw [← hmh]; exact hh (by simp; omega)
      have hi := ih m (by simp at hl; exact hl) hm0 hd.1 (fun _ => hh1)
      have hpos : 0 < decV m := by
        rcases Nat.eq_zero_or_pos (decV m) with h | h
        · rw [h] at hi
          have hz : Lib.decDigits 0 = [48] := by rw [Lib.decDigits]; rfl
          rw [hz] at hi
          rw [← hi] at hh1
          exact absurd rfl hh1
        · exact h
      rw [hv, Lib.decDigits, dif_neg (by omega), show (10 * decV m + (b.toNat - 48)) / 10 = decV m by omega, show (10 * decV m + (b.toNat - 48)) % 10 = b.toNat - 48 by omega, hi, hbb]
theorem text_of_num {l : List UInt8} {m : Int} (h : numR l = (m, 0)) : textOf m = l := by
  unfold numR at h
  split at h
  · rename_i hb
    split at h
    · cases h
    · rename_i hv
      simp only [Prod.mk.injEq, and_true] at h
      subst h
      have ht : textOf ((decV l : Nat) : Int) = Lib.decDigits (decV l) := by unfold textOf; rw [if_neg (by omega), Int.toNat_natCast]
      rw [ht]
      unfold numB at hb
      simp only [Bool.and_eq_true, Bool.not_eq_true', List.isEmpty_eq_false_iff] at hb
      refine dec_uniq l.length l rfl hb.1.1 hb.1.2 (fun hl e => ?_)
      have := hb.2
      simp [hl, e] at this
  · cases h
theorem numR_err {l : List UInt8} {m e : Int} (h : numR l = (m, e)) : (e = 0 ∧ 0 ≤ m ∧ m ≤ 1000000000) ∨ (e ≠ 0 ∧ m = 0 ∧ (e = 3 ∨ e = 6)) := by
  unfold numR at h
  split at h
  · split at h
    · cases h; simp
    · cases h; left; omega
  · cases h; simp

theorem dec_len (k : Nat) : ∀ u, u < 10 ^ (k + 1) → (Lib.decDigits u).length ≤ k + 1 := by
  induction k with
  | zero => intro u h; rw [Lib.decDigits, dif_pos (by simpa using h)]; simp
  | succ k ih =>
    intro u h
    rw [Lib.decDigits]
    split
    · simp
    · have := ih (u / 10) (by rw [Nat.pow_succ] at h; omega)
      simp
      omega
theorem text_len (n : Int) : (textOf n).length ≤ 10 := by
  unfold textOf
  split
  · simp
  · exact dec_len 9 _ (by omega)
theorem laidN_of {W : World} {l : List (String × DataW Unit)} (hm : ("strings.asciiSpace", Rows.laid_strings_asciiSpace) ∈ l) (hp : ("internal/strconv.uint64pow10", Rows.laid_internal_strconv_uint64pow10) ∈ l) (he : ("strconv.ErrRange", Rows.laid_strconv_ErrRange) ∈ l) (h : laidMet Tryz.prog l W) : LaidN W := by
  refine ⟨laidS_of hm h, laid_tab gPow (t := 145) (e := 115) (n := 20) (by kernel_rfl) Tryz.underlying145 Tryz.underlying115 (by kernel_rfl) (by kernel_rfl) h (by rw [show Lib.tabData .u64 Lib.pow10Tab = Rows.laid_internal_strconv_uint64pow10 by kernel_rfl]; exact hp), ?_⟩
  obtain ⟨g, t, cs, fuel, p, hg, hty, hvar, hd⟩ := laid_var h he
  obtain rfl := Option.some.inj (gErrR.symm.trans hg)
  have hty2 : (Tryz.prog.globals[7]?).map (·.type) = some 43 := by kernel_rfl
  obtain rfl := Option.some.inj (hty2.symm.trans hty)
  obtain ⟨_, u, v, hcs, _⟩ := iface_of_trod Tryz.underlying43 hd
  refine ⟨u, v, ?_⟩
  rw [hvar]
  congr 1
  exact Array.ext' hcs
end Go.Proofs.YtdcmjjinmnbaoaaGreatDoor
namespace Go.Proofs.YtdcmjjinmnbaoaaGreatDoor
open Go.RowKit

/-- Texts, a byte 10 between. -/
def nl : List (List UInt8) → List UInt8
  | [] => []
  | [s] => s
  | s :: t :: r => s ++ 10 :: nl (t :: r)
theorem nl_cons {s : List UInt8} {r : List (List UInt8)} (h : r ≠ []) : nl (s :: r) = s ++ 10 :: nl r := by
  cases r with
  | nil => exact absurd rfl h
  | cons t r => rfl
theorem nl_new (L : List (List UInt8)) (s : List UInt8) : nl (L ++ [s]) ++ [10] = nl (L ++ [s] ++ [[]]) := by
  induction L with
  | nil => simp [nl]
  | cons t L ih => rw [List.cons_append, List.cons_append, nl_cons (by simp), nl_cons (by simp), ← ih]; simp
theorem nl_more (L : List (List UInt8)) (s x : List UInt8) : nl (L ++ [s]) ++ x = nl (L ++ [s ++ x]) := by
  induction L with
  | nil => simp [nl]
  | cons t L ih => rw [List.cons_append, List.cons_append, nl_cons (by simp), nl_cons (by simp), ← ih]; simp

/-- The lines that have words. -/
def linesOf (n : Nat) : List (List UInt8) → List (Nat × List (List UInt8))
  | [] => []
  | s :: r => (if 0 < (Lib.fields (upTo s 35)).length then [(n + 1, Lib.fields (upTo s 35))] else []) ++ linesOf (n + 1) r
theorem behind_of (m : Nat) : ∀ (L : List (List UInt8)) (n : Nat), behind m (linesOf n L) = linesOf (n + m) L := by
  intro L
  induction L with
  | nil => intro n; rfl
  | cons s L ih =>
    intro n
    rw [linesOf, linesOf, behind, List.map_append]
    have := ih (n + 1)
    rw [behind] at this
    rw [this, show n + 1 + m = n + m + 1 by omega]
    congr 1
    split
    · simp; omega
    · rfl
theorem lines_nl : ∀ (L : List (List UInt8)), L ≠ [] → (∀ s ∈ L, (10 : UInt8) ∉ s) → linesTo (nl L) (partsN 10 (nl L)) = linesOf 0 L
  | [], h, _ => absurd rfl h
  | [s], _, hs => by
    have h10 := hs s (by simp)
    show linesTo s (partsN 10 s) = _
    rw [(one_part h10).1, linesTo_one h10, linesOf, linesOf, List.append_nil]
  | s :: t :: r, _, hs => by
    have h10 := hs s (by simp)
    have ih := lines_nl (t :: r) (by simp) (fun x hx => hs x (by simp [hx]))
    rw [nl_cons (by simp), lines_join, ih, (one_part h10).1, linesTo_one h10, behind_of]
    rfl
theorem ok_nl : ∀ (L : List (List UInt8)), L ≠ [] → (∀ s ∈ L, (10 : UInt8) ∉ s ∧ (upTo s 35).all okB = true) → ∀ i, i < partsN 10 (nl L) → okLine (nl L) i = true
  | [], h, _ => absurd rfl h
  | [s], _, hs => by
    obtain ⟨h10, ho⟩ := hs s (by simp)
    intro i hi
    change i < partsN 10 s at hi
    rw [(one_part h10).1] at hi
    obtain rfl : i = 0 := by omega
    show okLine s 0 = true
    rw [okLine_one h10, ho]
  | s :: t :: r, _, hs => by
    obtain ⟨h10, ho⟩ := hs s (by simp)
    have ih := ok_nl (t :: r) (by simp) (fun x hx => hs x (by simp [hx]))
    rw [nl_cons (by simp)]
    refine ok_join (fun i hi => ?_) ih
    rw [(one_part h10).1] at hi
    obtain rfl : i = 0 := by omega
    rw [okLine_one h10, ho]

theorem fieldsGo_split {c : UInt8} (hc : Lib.isSp c = true) (b : List UInt8) : ∀ (a acc : List UInt8), Lib.fieldsGo acc (a ++ c :: b) = Lib.fieldsGo acc a ++ Lib.fieldsGo [] b := by
  intro a
  induction a with
  | nil => intro acc; rw [List.nil_append, go_sp hc, go_end]
  | cons x a ih =>
    intro acc
    rw [List.cons_append]
    cases hx : Lib.isSp x with
    | true => rw [go_sp hx, go_sp hx, ih, List.append_assoc]
    | false => rw [go_on hx, go_on hx, ih]
theorem fields_split {c : UInt8} (hc : Lib.isSp c = true) (a b : List UInt8) : Lib.fields (a ++ c :: b) = Lib.fields a ++ Lib.fields b := fieldsGo_split hc b a []
theorem fields_sp (x : List UInt8) : ∀ s : List UInt8, (∀ b ∈ s, Lib.isSp b = true) → Lib.fields (s ++ x) = Lib.fields x := by
  intro s
  induction s with
  | nil => intro _; rfl
  | cons c s ih =>
    intro h
    have := fieldsGo_split (h c (by simp)) (s ++ x) [] []
    rw [List.nil_append] at this
    show Lib.fieldsGo [] (c :: (s ++ x)) = _
    rw [this, go_end]
    exact ih (fun b hb => h b (by simp [hb]))

/-- What stands between words. -/
structure Blank (s : List UInt8) : Prop where
  ne : s ≠ []
  sp : ∀ b ∈ s, b = 32 ∨ b = 9
  len : s.length ≤ 3
theorem Blank.isSp {s : List UInt8} (h : Blank s) : ∀ b ∈ s, Lib.isSp b = true := fun b hb => by
  rcases h.sp b hb with rfl | rfl <;> rfl
theorem blank_word {cur s x : List UInt8} (hs : Blank s) : Lib.fields (cur ++ (s ++ x)) = Lib.fields cur ++ Lib.fields x := by
  obtain ⟨c, r, rfl⟩ : ∃ c r, s = c :: r := by
    cases s with
    | nil => exact absurd rfl hs.ne
    | cons c r => exact ⟨c, r, rfl⟩
  rw [List.cons_append, fields_split (hs.isSp c (by simp)), fields_sp x r (fun b hb => hs.isSp b (by simp [hb]))]

theorem dig_bytes {b : UInt8} (h : isDig b = true) : Lib.isSp b = false ∧ okB b = true ∧ b ≠ 10 ∧ b ≠ 35 := by
  have : ∀ n, n < 256 → isDig (UInt8.ofNat n) = true → Lib.isSp (UInt8.ofNat n) = false ∧ okB (UInt8.ofNat n) = true ∧ UInt8.ofNat n ≠ 10 ∧ UInt8.ofNat n ≠ 35 := by decide +kernel
  have h2 := this b.toNat b.toNat_lt
  rw [UInt8.ofNat_toNat] at h2
  exact h2 h

/-- A line so far: of words ws, no remark yet. -/
structure Cur (s : List UInt8) (ws : List (List UInt8)) : Prop where
  fields : Lib.fields s = ws
  ok : s.all okB = true
  no10 : (10 : UInt8) ∉ s
  no35 : (35 : UInt8) ∉ s
theorem Cur.nil : Cur [] [] := ⟨rfl, rfl, by simp, by simp⟩
theorem Blank.all {s : List UInt8} (h : Blank s) : s.all okB = true ∧ (10 : UInt8) ∉ s ∧ (35 : UInt8) ∉ s := by
  refine ⟨List.all_eq_true.2 fun b hb => ?_, fun hb => ?_, fun hb => ?_⟩
  · rcases h.sp b hb with rfl | rfl <;> rfl
  · rcases h.sp _ hb with h | h <;> exact absurd h (by decide)
  · rcases h.sp _ hb with h | h <;> exact absurd h (by decide)
theorem Cur.word {s b x : List UInt8} {ws : List (List UInt8)} (h : Cur s ws) (hb : Blank b) (hx : x ≠ []) (hd : x.all isDig = true) : Cur (s ++ (b ++ x)) (ws ++ [x]) := by
  have hd' := fun c hc => dig_bytes (List.all_eq_true.1 hd c hc)
  refine ⟨by rw [blank_word hb, h.fields, fields_word x (fun c hc => (hd' c hc).1) hx], ?_, ?_, ?_⟩
  · rw [List.all_append, List.all_append, h.ok, hb.all.1]
    simp only [Bool.true_and]
    exact List.all_eq_true.2 fun c hc => (hd' c hc).2.1
  · simp only [List.mem_append, not_or]
    exact ⟨h.no10, hb.all.2.1, fun hc => (hd' _ hc).2.2.1 rfl⟩
  · simp only [List.mem_append, not_or]
    exact ⟨h.no35, hb.all.2.2, fun hc => (hd' _ hc).2.2.2 rfl⟩
/-- A line that is done. -/
structure Done (s : List UInt8) (ws : List (List UInt8)) : Prop where
  fields : Lib.fields (upTo s 35) = ws
  ok : (upTo s 35).all okB = true
  no10 : (10 : UInt8) ∉ s
theorem Cur.done {s : List UInt8} {ws : List (List UInt8)} (h : Cur s ws) : Done s ws := by
  have := upTo_all h.no35
  exact ⟨by rw [this]; exact h.fields, by rw [this]; exact h.ok, h.no10⟩
def remarkL : List UInt8 := [35, 32, 110, 111, 116, 1, 32, 116, 104, 105, 115]
theorem Cur.remark {s b : List UInt8} {ws : List (List UInt8)} (h : Cur s ws) (hb : Blank b) : Done (s ++ (b ++ remarkL)) ws := by
  have hup : upTo (s ++ (b ++ remarkL)) 35 = s ++ b := by
    rw [← List.append_assoc]
    show upTo ((s ++ b) ++ 35 :: [32, 110, 111, 116, 1, 32, 116, 104, 105, 115]) 35 = _
    rw [remark_bare]
    exact upTo_all (by simp only [List.mem_append, not_or]; exact ⟨h.no35, hb.all.2.2⟩)
  refine ⟨?_, ?_, ?_⟩
  · rw [hup]
    have := blank_word (cur := s) (x := []) hb
    rw [List.append_nil] at this
    rw [this, h.fields]
    exact List.append_nil _
  · rw [hup, List.all_append, h.ok, hb.all.1]; rfl
  · simp only [List.mem_append, not_or]
    exact ⟨h.no10, hb.all.2.1, by decide⟩

end Go.Proofs.YtdcmjjinmnbaoaaGreatDoor
