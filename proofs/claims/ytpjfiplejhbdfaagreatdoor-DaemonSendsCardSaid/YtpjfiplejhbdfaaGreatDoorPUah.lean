/- strings.SplitSeq at a separator of one byte: what its iterator does; a range over it. strings.Cut at a separator of one byte. The lines of a text: plain Lean. A law whose row lists package-level variables: what the list gives, and the step from a walk to the row. -/
import Derived.Test.YtpjfiplejhbdfaaGreatDoorPUag
import Derived.Test.YtpjfiplejhbdfaaGreatDoorPUab
import Derived.RangeFuncNested
import Derived.RangeFuncBound
import Derived.RangeFuncCalls
import Derived.RangeFuncLeaves
import Derived.Shelf.Abstract
import Derived.Shelf.RegionOpen
import Derived.WalkKit
import Derived.OwnWalkIn
import Derived.TacticsInMore
import Derived.LoopNIn
import Derived.LoopIn
import Derived.Test.YtpjfiplejhbdfaaGreatDoorPUaa
import Derived.Deep.DeepHandedRow
import Derived.Lib.LaidTab
import Derived.Sort.Grow
namespace Go.Proofs.YtpjfiplejhbdfaaGreatDoor
open Go.RowKit Go.Shelf
attribute [local go_sem] Oper.semAt_some

abbrev bs (l : List UInt8) : ByteArray := ⟨l.toArray⟩

/-- The parts of a text between bytes c, one after another: what is left ahead of part k, and the part. -/
structure Parts (c : UInt8) (N : Nat) (rest part : Nat → List UInt8) : Prop where
  pos : 0 < N
  len : ∀ k, k < N → (rest k).length ≤ 9223372036854775807
  mid : ∀ k, k + 1 < N → Lib.indexByte (rest k) c = (part k).length ∧ (part k).length < (rest k).length ∧ part k = (rest k).take (part k).length ∧ rest (k + 1) = (rest k).drop ((part k).length + 1)
  last : Lib.indexByte (rest (N - 1)) c = -1 ∧ part (N - 1) = rest (N - 1)

/-- The iterator's own cells. -/
structure SplitAt (c : UInt8) (Bs Bp Bv : Nat) (r : List UInt8) (W : World) : Prop where
  s : W.cell? ⟨Bs, 0, none⟩ = some (.string (bs r))
  sf : W.frozen? ⟨Bs, 0, none⟩ = false
  p : W.cell? ⟨Bp, 0, none⟩ = some (.string ⟨#[c]⟩)
  v : W.cell? ⟨Bv, 0, none⟩ = some (.int .i64 0)

theorem bs_take (l : List UInt8) (n : Nat) : (bs l).extract 0 n = bs (l.take n) := by
  apply ByteArray.ext
  simp [ByteArray.data_extract]
theorem bs_drop (l : List UInt8) (n : Nat) : (bs l).extract n l.length = bs (l.drop n) := by
  apply ByteArray.ext
  simp [ByteArray.data_extract, List.take_of_length_le]

/-- How much is left. -/
def leftOf (Bs : Nat) (W : World) : Nat := match W.cell? ⟨Bs, 0, none⟩ with
  | some (.string s) => s.size
  | _ => 0
theorem leftOf_of {Bs : Nat} {W : World} {l : List UInt8} (h : W.cell? ⟨Bs, 0, none⟩ = some (.string (bs l))) : leftOf Bs W = l.length := by
  simp only [leftOf, h]; rfl

set_option maxHeartbeats 4000000 in
theorem splitIter (n : Nat) (c : UInt8) (Bs Bp Bv N : Nat) (rest part : Nat → List UInt8) (hP : Parts c N rest part) (l : Nat) (J M : Nat → World → Prop) (X : World → Prop) (W : World)
    (hJ : ∀ k W, J k W → SplitAt c Bs Bp Bv (rest k) W) (hM : ∀ k W, M k W → SplitAt c Bs Bp Bv (rest k) W)
    (hnext : ∀ k W, k + 1 < N → M k W → J (k + 1) (W.setCell ⟨Bs, 0, none⟩ (.string (bs (rest (k + 1))))))
    (hY : ∀ k W, k < N → J k W → YieldAt Fence.wide (n - 1) Tryz.prog l #[.string (bs (part k))] W fun e W' => (e = .returned (.bool true) ∧ M k W') ∨ (e = .returned (.bool false) ∧ X W'))
    (h0 : J 0 W) :
    CallsIn Fence.wide n Tryz.prog 161 #[.func (.yield l) #[] #[], .pointer (some ⟨Bp, 0, none⟩), .pointer (some ⟨Bs, 0, none⟩), .pointer (some ⟨Bv, 0, none⟩)] W
      fun e W' => (∃ v, e = .returned v) ∧ (M (N - 1) W' ∨ X W') := by
  refine callsIn_of_wp Tryz.func161 rfl trivial ?_ rfl
  simp only [Tryz.ntmps161, List.size_toArray, List.length_cons, List.length_nil, Nat.reduceAdd, Nat.reduceSub, Array.replicate_succ, Array.replicate_zero, List.push_toArray, List.append_toArray, List.nil_append, List.cons_append]
  have hc := (hJ 0 W h0).p
  gi_wp2
  clear hc
  gi_loopw [] (fun wr => ∃ k, k < N ∧ J k wr) (fun wr => leftOf Bs wr)
  case atStart => exact ⟨0, hP.pos, h0⟩
  case round =>
    obtain ⟨k, hk, hJk⟩ := hrel
    obtain ⟨c1, c2, c3, c4⟩ := hJ k wr hJk
    have hlen := hP.len k hk
    have hlo := hide (leftOf_of c1)
    obtain ⟨fn, tmps, assign, body, hy, hR⟩ := hY k wr hk hJk
    have hix0 := Tryz.strings_Index_one (bs (rest k)) c wr
    replace hJk := hide hJk
    by_cases hmid : k + 1 < N
    · obtain ⟨h1, h2, h3, h4⟩ := hP.mid k hmid
      have hix : Calls Tryz.prog 163 #[.string (bs (rest k)), .string ⟨#[c]⟩] wr fun e w' => e = .returned (.int .i64 ((part k).length : Nat)) ∧ w' = wr := by
        rw [← h1]; exact hix0
      clear hix0
      replace hix := hide hix
      replace h1 := hide h1
      replace h3 := hide h3
      replace h4 := hide h4
      gi_wp2_with fail
      refine ⟨trivial, fun h => (by cases h), (callsIn_wide.2 hix.out).mono ?_⟩
      rintro e w' ⟨rfl, rfl⟩
      have hex : (bs (rest k)).extract 0 (part k).length = bs (part k) := by rw [bs_take, ← h3.out]
      have hex2 : (bs (rest k)).extract ((part k).length + 1) (rest k).length = bs (rest (k + 1)) := by rw [h4.out, bs_drop]
      gi_wp2
      refine ⟨fun h => (by cases h), hR.mono ?_⟩
      rintro e W2 (⟨rfl, hM2⟩ | ⟨rfl, hX2⟩)
      · obtain ⟨d1, d2, d3, d4⟩ := hM k W2 hM2
        have hn2 := hnext k W2 hmid hM2
        have hlo2 := hide (leftOf_of ((hJ _ _ hn2).s))
        have hll : Hid ((rest (k + 1)).length < (rest k).length) := by rw [h4.out]; refine hide ?_; simp; omega
        replace hM2 := hide hM2
        replace hn2 := hide hn2
        gi_wp2
        go_roundw
        case rel => exact ⟨k + 1, hmid, hn2.out⟩
        case measure => rw [hlo2.out, hlo.out]; exact hll.out
      · gi_wp2
        refine bodyPost_ret (results_none rfl _ _ _) rfl ?_
        exact ⟨⟨_, rfl⟩, .inr hX2⟩
    · obtain ⟨g1, g2⟩ := hP.last
      obtain rfl : k = N - 1 := by omega
      have hix : Calls Tryz.prog 163 #[.string (bs (rest (N - 1))), .string ⟨#[c]⟩] wr fun e w' => e = .returned (.int .i64 (-1)) ∧ w' = wr := by
        rw [← g1]; exact hix0
      clear hix0
      replace hix := hide hix
      rw [g2] at hy
      replace g1 := hide g1
      replace g2 := hide g2
      gi_wp2_with fail
      refine ⟨trivial, fun h => (by cases h), (callsIn_wide.2 hix.out).mono ?_⟩
      rintro e w' ⟨rfl, rfl⟩
      gi_wp2
      refine ⟨fun h => (by cases h), hR.mono ?_⟩
      rintro e W2 (⟨rfl, hM2⟩ | ⟨rfl, hX2⟩)
      · gi_wp2
        go_end0
        exact ⟨⟨_, rfl⟩, .inl hM2⟩
      · gi_wp2
        go_end0
        exact ⟨⟨_, rfl⟩, .inr hX2⟩

/-- What is asked of a round's end: it goes on, or it leaves by a return. D, D + 1: the loop's own two blocks. -/
def roundOut (D : Nat) (M X : World → Prop) (W : World) : Exit → Act → World → Prop
  | .normal, _, W' => (∀ b, D ≤ b → b ≤ D + 1 → W'.heap[b]? = W.heap[b]?) ∧ M W'
  | .ret, _, W' => (∀ b, D ≤ b → b ≤ D + 1 → W'.heap[b]? = W.heap[b]?) ∧ X W'
  | _, _, _ => False

/-- What holds whatever stands in the loop's own two blocks. -/
def Apart (D : Nat) (J : World → Prop) : Prop := ∀ W b o, D ≤ b → b ≤ D + 1 → J W → J (W.putObj b o)

set_option maxHeartbeats 2000000 in
/-- 'for x := range strings.SplitSeq(s, c)', outermost. -/
theorem rangeSplit (n : Nat) (c : UInt8) (Bs Bp Bv N : Nat) (rest part : Nat → List UInt8) (hP : Parts c N rest part) {g : Operand} {ps : Array Tmp} {assign body : Code} {Q : Exit → Act → World → Prop} {a : Act} {w : World}
    (hg : a.eval g = .func (.func 161) #[] #[.pointer (some ⟨Bp, 0, none⟩), .pointer (some ⟨Bs, 0, none⟩), .pointer (some ⟨Bv, 0, none⟩)])
    (hps : ps.size = 1) (J M : Nat → World → Prop) (X : World → Prop) (hJa : ∀ k, Apart w.heap.size (J k)) (hMa : ∀ k, Apart w.heap.size (M k)) (hXa : Apart w.heap.size X)
    (hB : Bs < w.heap.size)
    (hJ : ∀ k W, J k W → SplitAt c Bs Bp Bv (rest k) W) (hM : ∀ k W, M k W → SplitAt c Bs Bp Bv (rest k) W)
    (hnext : ∀ k W, k + 1 < N → M k W → J (k + 1) (W.setCell ⟨Bs, 0, none⟩ (.string (bs (rest (k + 1))))))
    (h0 : ∀ o o', J 0 ((w.alloc o).alloc o')) (a₁ : Nat → Act)
    (hassign : ∀ (l k : Nat) (W : World) (K : Act → World → Prop), K (a₁ k) W →
      assign.wpIn (Fence.wide.inRound l) (n - 1 - 1) Tryz.prog (Exit.then K (fun _ _ _ => False)) { tmps := (ps.zip #[.string (bs (part k))]).foldl (fun t (p, v) => t.setIfInBounds p v) a.tmps, defers := [] } W)
    (hbody : ∀ (l k : Nat) (W : World), k < N → w.heap.size + 1 < W.heap.size → J k W → body.wpIn (Fence.wide.inRound l) (n - 1 - 1) Tryz.prog (roundOut w.heap.size (M k) X W) (a₁ k) W)
    (hdone : ∀ W, M (N - 1) W → W.heap[w.heap.size]? = some (.deferred (some [])) → Q .normal { a with defers := { target := .collected w.heap.size, args := #[] } :: a.defers } W)
    (hstop : ∀ W, X W → W.heap[w.heap.size]? = some (.deferred (some [])) → Code.ret.wpIn Fence.wide n Tryz.prog Q { a with defers := { target := .collected w.heap.size, args := #[] } :: a.defers } W) :
    (Code.rangeFunc g ps assign body).wpIn Fence.wide n Tryz.prog Q a w := by
  refine wpIn_rangeFunc ?_
  intro fn hfn
  obtain ⟨rec, hrec⟩ : ∃ rec : LoopState → Option Code → Loop, rec = fun st pe => { state := st, pending := pe, fn, tmps := a.tmps, params := ps, assign, body, defers := w.heap.size } := ⟨_, rfl⟩
  obtain ⟨W1, hW1⟩ : ∃ W1, (w.alloc (.deferred (some []))).alloc (.loop (rec .ready none)) = W1 := ⟨_, rfl⟩
  have hL1 : W1.heap[w.heap.size + 1]? = some (.loop (rec .ready none)) := by
    rw [← hW1]
    have := heap_alloc_new (w.alloc (.deferred (some []))) (.loop (rec .ready none))
    rwa [World.size_alloc] at this
  have hD1 : W1.heap[w.heap.size]? = some (.deferred (some [])) := by
    rw [← hW1, heap_alloc_old (by simp)]
    exact heap_alloc_new w _
  refine ⟨w.heap.size + 1, [{ target := .collected w.heap.size, args := #[] }], W1, { target := .fn (.func 161) #[.pointer (some ⟨Bp, 0, none⟩), .pointer (some ⟨Bs, 0, none⟩), .pointer (some ⟨Bv, 0, none⟩)], args := #[.func (.yield (w.heap.size + 1)) #[] #[]] }, W1, 161,
    #[.func (.yield (w.heap.size + 1)) #[] #[]] ++ #[.pointer (some ⟨Bp, 0, none⟩), .pointer (some ⟨Bs, 0, none⟩), .pointer (some ⟨Bv, 0, none⟩)], W1, ?_, ?_, ?_, ?_, fun h => (by cases h), ?_⟩
  · rw [← hW1, hrec]
    exact run_enterLoop_outer _ _ _ _ _
  · simp only [resolve, hg]
    simp [go_sem]
  · intro f' hf'
    exact trivial
  · simp [invoke, go_sem]
  · refine (splitIter (n - 1) c Bs Bp Bv N rest part hP (w.heap.size + 1)
      (fun k W => J k W ∧ W.heap[w.heap.size + 1]? = some (.loop (rec .ready none)) ∧ W.heap[w.heap.size]? = some (.deferred (some [])))
      (fun k W => M k W ∧ W.heap[w.heap.size + 1]? = some (.loop (rec .ready none)) ∧ W.heap[w.heap.size]? = some (.deferred (some [])))
      (fun W => X W ∧ W.heap[w.heap.size + 1]? = some (.loop (rec .done (some .ret))) ∧ W.heap[w.heap.size]? = some (.deferred (some [])))
      W1 (fun k W h => hJ k W h.1) (fun k W h => hM k W h.1) ?_ ?_ ⟨by rw [← hW1]; exact h0 _ _, hL1, hD1⟩).mono ?_
    · rintro k W hk ⟨h1, h2, h3⟩
      exact ⟨hnext k W hk h1, (heap_setCell_ne (by show w.heap.size + 1 ≠ Bs; omega) _).trans h2, (heap_setCell_ne (by show w.heap.size ≠ Bs; omega) _).trans h3⟩
    · rintro k W hk ⟨h1, h2, h3⟩
      have hlt : w.heap.size + 1 < W.heap.size := lt_of_block h2
      have hy := run_yield (P := Tryz.prog) (args := #[.string (bs (part k))]) h2 (by rw [hrec]; exact hps.symm)
      rw [hrec] at hy
      refine ⟨fn, _, assign, body, hy, roundIn_of_wpIn hfn (hassign _ k W _ ⟨_, run_beginRound h2 (by rw [hrec]), ?_⟩)⟩
      have hb2 : (W.putObj (w.heap.size + 1) (.loop { rec .ready none with state := .busy })).heap[w.heap.size + 1]? = some (.loop { rec .ready none with state := .busy }) := World.putObj_heap_same hlt
      have hb3 : (W.putObj (w.heap.size + 1) (.loop { rec .ready none with state := .busy })).heap[w.heap.size]? = some (.deferred (some [])) := (World.putObj_heap_other (by omega)).trans h3
      refine wpIn_mono (hbody _ k _ hk (by rw [World.putObj_size]; exact hlt) (hJa k _ _ _ (by omega) (by omega) h1)) ?_
      intro e a3 W3 hp
      cases e with
      | normal =>
        obtain ⟨hkeep, hm3⟩ := hp
        have hl3 := (hkeep _ (by omega) (by omega)).trans hb2
        have hd3 := (hkeep _ (by omega) (by omega)).trans hb3
        have he := run_endRound (P := Tryz.prog) none hl3
        refine ⟨_, _, he, .inl ⟨rfl, hMa k _ _ _ (by omega) (by omega) hm3, ?_, (World.putObj_heap_other (by omega)).trans hd3⟩⟩
        rw [hrec]
        exact World.putObj_heap_same (lt_of_block hl3)
      | ret =>
        obtain ⟨hkeep, hm3⟩ := hp
        have hl3 := (hkeep _ (by omega) (by omega)).trans hb2
        have hd3 := (hkeep _ (by omega) (by omega)).trans hb3
        have he := run_endRound (P := Tryz.prog) (some .ret) hl3
        refine ⟨_, _, he, .inr ⟨rfl, hXa _ _ _ (by omega) (by omega) hm3, ?_, (World.putObj_heap_other (by omega)).trans hd3⟩⟩
        rw [hrec]
        exact World.putObj_heap_same (lt_of_block hl3)
      | exit id => exact hp.elim
      | goto t => exact hp.elim
      | panic ch => exact hp.elim
      | outgrown => exact hp.elim
    · rintro e W2 ⟨⟨v, rfl⟩, (⟨h1, h2, h3⟩ | ⟨h1, h2, h3⟩)⟩
      · have he := run_endLoop (P := Tryz.prog) h2 (by rw [hrec]; simp)
        exact ⟨_, _, he, by rw [hrec]; exact hdone _ (hMa _ _ _ _ (by omega) (by omega) h1) ((World.putObj_heap_other (by omega)).trans h3)⟩
      · have he := run_endLoop (P := Tryz.prog) h2 (by rw [hrec]; simp)
        exact ⟨_, _, he, by rw [hrec]; exact hstop _ (hXa _ _ _ (by omega) (by omega) h1) ((World.putObj_heap_other (by omega)).trans h3)⟩

theorem splitSeq_any (s sep : ByteArray) (w : World) :
    Calls Tryz.prog 102 #[.string s, .string sep] w fun e w' =>
      e = .returned (.func (.func 161) #[] #[.pointer (some ⟨w.heap.size + 1, 0, none⟩), .pointer (some ⟨w.heap.size, 0, none⟩), .pointer (some ⟨w.heap.size + 1 + 1, 0, none⟩)]) ∧
      w' = ((w.alloc (.cells #[.string s] 9)).alloc (.cells #[.string sep] 9)).alloc (.cells #[.int .i64 0] 3) := by
  have hin : Calls Tryz.prog 134 #[.string s, .string sep, .int .i64 0] w fun e w' =>
      e = .returned (.func (.func 161) #[] #[.pointer (some ⟨w.heap.size + 1, 0, none⟩), .pointer (some ⟨w.heap.size, 0, none⟩), .pointer (some ⟨w.heap.size + 1 + 1, 0, none⟩)]) ∧
      w' = ((w.alloc (.cells #[.string s] 9)).alloc (.cells #[.string sep] 9)).alloc (.cells #[.int .i64 0] 3) := by
    go_enter Tryz.func134, Tryz.ntmps134
    go_wp2
    go_ret
    exact ⟨rfl, rfl⟩
  replace hin := hide hin
  go_enter Tryz.func102, Tryz.ntmps102
  go_wp2_with fail
  refine hin.out.mono ?_
  rintro e w' ⟨rfl, rfl⟩
  go_wp2
  go_ret
  exact ⟨rfl, rfl⟩

end Go.Proofs.YtpjfiplejhbdfaaGreatDoor

namespace Go.Proofs.YtpjfiplejhbdfaaGreatDoor
open Go.RowKit

/-- What stands ahead of the first c. -/
def upTo (l : List UInt8) (c : UInt8) : List UInt8 := l.takeWhile (· != c)

/-- Where the first c stands. -/
theorem index_upTo (l : List UInt8) (c : UInt8) : Lib.indexByte l c = if c ∈ l then ((upTo l c).length : Int) else -1 := by
  induction l with
  | nil => simp [Lib.indexByte]
  | cons b l ih =>
    unfold Lib.indexByte
    by_cases hb : b = c
    · subst hb; simp [upTo]
    · have h1 : (b == c) = false := by simpa using hb
      have h2 : (b != c) = true := by simpa using hb
      rw [h1, ih]
      by_cases hm : c ∈ l
      · have : ¬ ((upTo l c).length : Int) = -1 := by omega
        simp [hm, upTo, h2]
      · have h3 : ¬ c = b := fun e => hb e.symm
        simp [hm, h3]
theorem upTo_all {l : List UInt8} {c : UInt8} (h : c ∉ l) : upTo l c = l := by
  induction l with
  | nil => rfl
  | cons b l ih =>
    have h1 : (b != c) = true := by simp; intro e; subst e; exact h (by simp)
    unfold upTo
    rw [List.takeWhile_cons, if_pos h1]
    congr 1
    exact ih (fun hm => h (by simp [hm]))
theorem upTo_not (l : List UInt8) (c : UInt8) : c ∉ upTo l c := by
  induction l with
  | nil => simp [upTo]
  | cons b l ih =>
    unfold upTo
    rw [List.takeWhile_cons]
    split
    · rename_i h1
      intro hm
      rcases List.mem_cons.mp hm with e | e
      · subst e; simp at h1
      · exact ih e
    · simp
theorem upTo_le (l : List UInt8) (c : UInt8) : (upTo l c).length ≤ l.length := (List.takeWhile_sublist _).length_le
theorem upTo_take (l : List UInt8) (c : UInt8) : upTo l c = l.take (upTo l c).length := by
  have := List.takeWhile_prefix (p := (· != c)) (l := l)
  exact List.prefix_iff_eq_take.mp this
theorem upTo_lt {l : List UInt8} {c : UInt8} (h : c ∈ l) : (upTo l c).length < l.length := by
  rcases Nat.lt_or_ge (upTo l c).length l.length with h1 | h1
  · exact h1
  · exfalso
    have h2 := upTo_take l c
    rw [List.take_of_length_le h1] at h2
    rw [← h2] at h
    exact upTo_not l c h

set_option maxHeartbeats 4000000 in
theorem cutIn_any (l : List UInt8) (c : UInt8) (w : World) (hl : l.length ≤ 9223372036854775806) :
    Calls Tryz.prog 135 #[.string (bs l), .string ⟨#[c]⟩] w fun e w' => ∃ u v, e = .returned (.tuple #[.string (bs (upTo l c)), u, v]) ∧ Mod NoB w w' := by
  have hix0 := Tryz.stringslite_Index_one (bs l) c w
  by_cases hc : c ∈ l
  · have hix : Calls Tryz.prog 164 #[.string (bs l), .string ⟨#[c]⟩] w fun e w' => e = .returned (.int .i64 ((upTo l c).length : Nat)) ∧ w' = w := by
      have := index_upTo l c
      rw [if_pos hc] at this
      rw [← this]; exact hix0
    have hlt := upTo_lt hc
    have hex : (bs l).extract 0 (upTo l c).length = bs (upTo l c) := by rw [bs_take, ← upTo_take]
    have hex2 : (bs l).extract ((upTo l c).length + 1) l.length = bs (l.drop ((upTo l c).length + 1)) := bs_drop _ _
    clear hix0
    replace hix := hide hix
    generalize upTo l c = p at hix hlt hex hex2 ⊢
    clear hc
    go_enter Tryz.func135, Tryz.ntmps135
    go_wp2_with fail
    refine hix.out.mono ?_
    rintro e w' ⟨rfl, rfl⟩
    have hw1 : IntKind.i64.wrap ((p.length : Int) + 1) = (p.length : Int) + 1 := IntWalk.i64_in _ (by omega)
    go_wp2_with fail
    go_region_with ((fail))
    all_goals
      go_wp2
      go_ret3
      exact ⟨_, _, rfl, (Mod.refl _ _).drew⟩
  · have hix : Calls Tryz.prog 164 #[.string (bs l), .string ⟨#[c]⟩] w fun e w' => e = .returned (.int .i64 (-1)) ∧ w' = w := by
      have := index_upTo l c
      rw [if_neg hc] at this
      rw [← this]; exact hix0
    rw [upTo_all hc]
    clear hix0 hc
    replace hix := hide hix
    go_enter Tryz.func135, Tryz.ntmps135
    go_wp2_with fail
    refine hix.out.mono ?_
    rintro e w' ⟨rfl, rfl⟩
    go_wp2
    go_ret3
    exact ⟨_, _, rfl, Mod.refl _ _⟩

theorem cut_any (l : List UInt8) (c : UInt8) (w : World) (hl : l.length ≤ 9223372036854775806) :
    Calls Tryz.prog 103 #[.string (bs l), .string ⟨#[c]⟩] w fun e w' => ∃ u v, e = .returned (.tuple #[.string (bs (upTo l c)), u, v]) ∧ Mod NoB w w' := by
  have hin := cutIn_any l c w hl
  replace hin := hide hin
  go_enter Tryz.func103, Tryz.ntmps103
  go_wp2_with fail
  refine hin.out.mono ?_
  rintro e w' ⟨u, v, rfl, hm⟩
  replace hm := hide hm
  go_wp2
  go_ret3
  exact ⟨_, _, rfl, hm.out⟩
end Go.Proofs.YtpjfiplejhbdfaaGreatDoor

namespace Go.Proofs.YtpjfiplejhbdfaaGreatDoor
open Go.RowKit

/-- What is left of a text behind its first k bytes c. -/
def restF (c : UInt8) (l : List UInt8) : Nat → List UInt8
  | 0 => l
  | k + 1 => (restF c l k).drop ((upTo (restF c l k) c).length + 1)
def partF (c : UInt8) (l : List UInt8) (k : Nat) : List UInt8 := upTo (restF c l k) c
def partsN (c : UInt8) (l : List UInt8) : Nat := l.count c + 1

theorem drop_count (l : List UInt8) (c : UInt8) (h : c ∈ l) : (l.drop ((upTo l c).length + 1)).count c + 1 = l.count c := by
  induction l with
  | nil => cases h
  | cons b l ih =>
    unfold upTo
    rw [List.takeWhile_cons]
    by_cases hb : b = c
    · subst hb; simp
    · have h1 : (b != c) = true := by simpa using hb
      rw [if_pos h1]
      have hm : c ∈ l := by
        rcases List.mem_cons.mp h with e | e
        · exact absurd e.symm hb
        · exact e
      have := ih hm
      simp only [List.length_cons, List.drop_succ_cons]
      rw [List.count_cons_of_ne hb]
      exact this

theorem rest_count (c : UInt8) (l : List UInt8) (k : Nat) (hk : k ≤ l.count c) : (restF c l k).count c + k = l.count c := by
  induction k with
  | zero => rfl
  | succ k ih =>
    have h := ih (by omega)
    have hm : c ∈ restF c l k := List.count_pos_iff.mp (by omega)
    have := drop_count (restF c l k) c hm
    show ((restF c l k).drop _).count c + (k + 1) = _
    omega

theorem rest_len (c : UInt8) (l : List UInt8) (k : Nat) : (restF c l k).length ≤ l.length := by
  induction k with
  | zero => exact Nat.le_refl _
  | succ k ih => simp only [restF, List.length_drop]; omega

theorem parts_of (c : UInt8) (l : List UInt8) (hl : l.length ≤ 9223372036854775807) : Parts c (partsN c l) (restF c l) (partF c l) where
  pos := by simp [partsN]
  len k _ := Nat.le_trans (rest_len c l k) hl
  mid k hk := by
    have h := rest_count c l k (by simp only [partsN] at hk; omega)
    have hm : c ∈ restF c l k := List.count_pos_iff.mp (by simp only [partsN] at hk; omega)
    refine ⟨?_, upTo_lt hm, upTo_take _ _, rfl⟩
    have := index_upTo (restF c l k) c
    rwa [if_pos hm] at this
  last := by
    have h := rest_count c l (l.count c) (Nat.le_refl _)
    have hn : c ∉ restF c l (l.count c) := fun hm => by have := List.count_pos_iff.mpr hm; omega
    have h2 := index_upTo (restF c l (l.count c)) c
    rw [if_neg hn] at h2
    simp only [partsN, Nat.add_sub_cancel]
    exact ⟨h2, upTo_all hn⟩

/-- A line's own part, its words. -/
def bare (l : List UInt8) (k : Nat) : List UInt8 := upTo (partF 10 l k) 35
def wordsOf (l : List UInt8) (k : Nat) : List (List UInt8) := Lib.fields (bare l k)
def okLine (l : List UInt8) (k : Nat) : Bool := (bare l k).all okB

/-- The lines that have words, of the first k. -/
def linesTo (l : List UInt8) : Nat → List (Nat × List (List UInt8))
  | 0 => []
  | k + 1 => linesTo l k ++ if 0 < (wordsOf l k).length then [(k + 1, wordsOf l k)] else []

theorem linesTo_len (l : List UInt8) (k : Nat) : (linesTo l k).length ≤ k := by
  induction k with
  | zero => exact Nat.le_refl _
  | succ k ih => unfold linesTo; split <;> simp <;> omega

end Go.Proofs.YtpjfiplejhbdfaaGreatDoor

namespace Go.Proofs.YtpjfiplejhbdfaaGreatDoor
open Go.RowKit Go.ChangeShapes Go.WideShapes Go.ChangeAt

theorem laid_var0 {P : Program} {W : World} {n : String} {d : DataW Unit} : ∀ {l : List (String × DataW Unit)} {ps : List MemPlace}, DataW.LaidVars P W l ps → (n, d) ∈ l →
    ∃ g t cs fuel p, P.globalNamed n = some g ∧ (P.globals[g]?).map (·.type) = some t ∧ W.var? P n = some cs ∧ DataW.trod (fun _ => ()) P W 0 (fun _ => true) false fuel t cs.toList = some (d, p)
  | (n', d') :: r, ps, h, hm => by
    obtain ⟨g, t, cs, fuel, p, q, h1, h2, h3, h4, h5, _⟩ := h
    rcases List.mem_cons.1 hm with e | e
    · cases e
      exact ⟨g, t, cs, fuel, p, h1, h2, h3, h4⟩
    · exact laid_var0 h5 e

theorem laid_var {P : Program} {W : World} {n : String} {d : DataW Unit} {l : List (String × DataW Unit)} (h : laidMet P l W) (hm : (n, d) ∈ l) :
    ∃ g t cs fuel p, P.globalNamed n = some g ∧ (P.globals[g]?).map (·.type) = some t ∧ W.var? P n = some cs ∧ DataW.trod (fun _ => ()) P W 0 (fun _ => true) false fuel t cs.toList = some (d, p) := by
  obtain ⟨ps, h1, _⟩ := h
  exact laid_var0 h1 hm

theorem laid_tab {P : Program} {W : World} {name : String} {k : IntKind} {zs : List Int} {l : List (String × DataW Unit)} {g : Nat} {t e : TypeId} {n : Nat}
    (hg : P.globalNamed name = some g) (hty : (P.globals[g]?).map (·.type) = some t) (ht : P.underlying t = some (.array n e)) (he : P.underlying e = some (.int k)) (hce : P.cellsOf e = 1) (hct : P.cellsOf t = n)
    (h : laidMet P l W) (hm : (name, Lib.tabData k zs) ∈ l) : Lib.TabIs P W name k zs := by
  obtain ⟨g', t', cs, fuel, p, hg', ht', hvar, hd⟩ := laid_var h hm
  obtain rfl := Option.some.inj (hg.symm.trans hg')
  obtain rfl := Option.some.inj (hty.symm.trans ht')
  unfold Lib.TabIs
  rw [hvar, ← Lib.cells_of_tab ht he hce hct hd]

theorem Mod.var {S : Nat → Prop} {P : Program} {w w' : World} (h : Mod S w w') {name : String} {g : Nat} {cs : Array Value} (hg : P.globalNamed name = some g) (hS : ¬ S g) (hv : w.var? P name = some cs) : w'.var? P name = some cs := by
  simp only [World.var?, hg, Option.bind_some] at hv ⊢
  cases hb : w.heap[g]? with
  | none => simp [hb] at hv
  | some o => rw [h.heap hb hS]; simpa [hb] using hv

theorem var_cell {P : Program} {w : World} {name : String} {g : Nat} {cs : Array Value} (hg : P.globalNamed name = some g) (hv : w.var? P name = some cs) (i : Nat) : w.cell? ⟨g, i, none⟩ = cs[i]? := by
  simp only [World.var?, hg, Option.bind_some] at hv
  cases hb : w.heap[g]? with
  | none => simp [hb] at hv
  | some o => cases o <;> simp_all [World.cell?]

theorem Mod.grow {S : Nat → Prop} {w w' : World} (h : Mod S w w') (os : Array Obj) : Mod S w (Sort.grow w' os) :=
  ⟨h.os, h.tape, h.output, Nat.le_trans h.size (by show _ ≤ (w'.heap ++ os).size; simp), fun k hk hn => by
    show (w'.heap ++ os)[k]? = _
    rw [Array.getElem?_append_left (Nat.lt_of_lt_of_le hk h.size)]
    exact h.block k hk hn⟩

/-- A law's step, where its row lists variables ('laid'). -/
theorem law_row {C : Checked} {os : Os} {f : FuncId} {fn : Func} {s : ChangeSpec} {bt : TypeId} {H : Type} {enc : TypeId × Value → H} {F : Stop.Interp} {laid : List (String × DataW Unit)}
    (own : ownKnob C.prog.godebug = none) (started : os.Started) (noInit : C.prog.inits.idxOf? f = none) (hfn : C.prog.funcs[f]? = some fn)
    (hl : laidOutB C.prog = true) (hr : (fn.params.toList.all fun t => C.prog.readableRec t && decide (t < C.prog.types.size)) = true)
    (hrt : fn.resultTypes = #[bt]) (hbt : C.prog.underlying bt = some .bool) (hv : s.vars = [])
    (hs : ∀ ds : List (DataW H), ds.length = fn.params.size → s.fn H ds = { results := [.lit (.bool true)], args := ds })
    (hlaid : laid.filter (fun x => x.2.handleName?.isSome) = [])
    (witness : ∃ (w : World) (tape : Tape) (i : Input), w.os = os ∧ (w.forCall tape i).Shaped C.prog ∧ i.vars = [] ∧ Input.okWide C.prog (w.forCall tape i) .any w.heap.size f i ∧
      (OpenSpec.ofChange s).preRow enc C.prog fn [] false laid (w.forCall tape i).memory i.args ∧ ({} : Assume).holds C.prog (lone (Frame.enter C.prog f i.args .normal) [] (w.forCall tape i)))
    (walk : ∀ (W : World) (base : Nat) (args : Array Value) (ds : List (DataW H)) (ps : List MemPlace),
      (∀ (j : Nat) t v, fn.params[j]? = some t → args[j]? = some v → Value.okWide C.prog W .any base t v) →
      DataW.TrodAll enc C.prog W 0 (fun _ => true) true fn.params.toList args.toList ds ps →
      (DataW.weightsEach C.prog fn.params.toList ds).all (· ≤ reachBytes) = true → laidMet C.prog laid W → W.ShapedOpen C.prog →
      Calls C.prog f args W fun e W' => e = .returned (.bool true) ∧ Mod NoB W W') :
    ReturnsInHanded {} C os f .any ((OpenSpec.ofChange s).preRow enc C.prog fn [] false laid) (((OpenSpec.ofChange s).at F).post enc C.prog fn false true false false) := by
  refine returnsInHanded_of_row (s := OpenSpec.ofChange s) own started noInit hfn witness ?_
  intro W base args ds gs before hval hW _ _ hsz hL hsh _
  have hW' := hW
  obtain ⟨p, q, hA, hV, rfl, hfz, hnd⟩ := hW
  have hv' : (OpenSpec.ofChange s).vars = [] := hv
  rw [hv'] at hV
  obtain ⟨rfl, rfl⟩ := trodVars_none hV
  have hvt : (OpenSpec.ofChange s).bare.plain.varTypes C.prog = [] := by
    show List.filterMap _ s.vars = []
    rw [hv]; rfl
  rw [hvt, List.append_nil, List.append_nil] at hsz
  have hL' : laidMet C.prog laid W := by
    unfold laidMetH at hL
    rw [hlaid] at hL
    exact hL
  refine (walk W base args ds p hval hA hsz hL' hsh).mono fun e W' ⟨he, hm⟩ => ?_
  have hb : Below W.heap.size W W' := hm.below
  have hlen : ds.length = fn.params.size := by
    have : ∀ (ts : List TypeId) (vs : List Value) (ds : List (DataW H)) (ps : List MemPlace), DataW.TrodAll enc C.prog W 0 (fun _ => true) true ts vs ds ps → ds.length = ts.length := by
      intro ts
      induction ts with
      | nil => intro vs ds ps h; obtain ⟨rfl, rfl, rfl⟩ := trodAll_nil h; rfl
      | cons t ts ih => intro vs ds ps h; obtain ⟨v, vs1, d, ds1, p, q, rfl, rfl, rfl, h1, h2⟩ := trodAll_cons h; simp [ih _ _ _ h2]
    rw [this _ _ _ _ hA]; simp
  have hfn2 := hs ds hlen
  simp only [List.append_nil] at hW'
  have hr2 : ∀ t ∈ fn.params.toList, C.prog.readableRec t = true ∧ t < C.prog.types.size := by
    intro t ht
    have := List.all_eq_true.1 hr t ht
    simpa using this
  have hfn3 : ((OpenSpec.ofChange s).at F).fn H ds = { results := [.lit (.bool true)], args := ds } := hfn2
  have hW2 : DataW.Whole enc C.prog fn.params.toList ((OpenSpec.ofChange s).at F).vars false W args.toList ds [] p := by
    have : DataW.Whole enc C.prog fn.params.toList (OpenSpec.ofChange s).vars false W args.toList ds [] p := by simpa using hW'
    exact this
  refine ⟨_, he, ds, [], p, [], p, [], hW2, ?_, ?_, ?_, hb.frame _, fun h => by cases h⟩
  · rw [List.append_nil, hfn3, hrt]
    exact trodAll_cons_mk (shut_bool hbt true) trodAll_mk0
  · rw [List.append_nil, hfn3]
    exact trodAll_below hl hb _ _ _ _ hr2 hA fun x hx => by simpa using hW'.lt x hx
  · rw [List.append_nil, hfn3]
    show DataW.TrodVars enc C.prog W' _ s.vars [] []
    rw [hv]
    rfl

end Go.Proofs.YtpjfiplejhbdfaaGreatDoor

