/- strings.SplitSeq at a separator of one byte: what its iterator does; a range over it. -/
import Derived.Test.YthbaoocnnfnhnaaDoorLxA
import Derived.Test.YthbaoocnnfnhnaaDoorShelf
import Derived.RangeFuncNested
import Derived.RangeFuncBound
import Derived.RangeFuncCalls
import Derived.RangeFuncLeaves
import Derived.Shelf.Abstract
import Derived.Shelf.RegionOpen
import Derived.WalkKit
import Derived.OwnWalkIn
import Derived.TacticsInMore
import Derived.LoopNIn
import Derived.LoopIn
namespace Go.Proofs.YthbaoocnnfnhnaaDoor
open Go.RowKit Go.Shelf
attribute [local go_sem] Oper.semAt_some

abbrev bs (l : List UInt8) : ByteArray := ⟨l.toArray⟩

/-- The parts of a text between bytes c, one after another: what is left ahead of part k, and the part. -/
structure Parts (c : UInt8) (N : Nat) (rest part : Nat → List UInt8) : Prop where
  pos : 0 < N
  len : ∀ k, k < N → (rest k).length ≤ 9223372036854775807
  mid : ∀ k, k + 1 < N → Lib.indexByte (rest k) c = (part k).length ∧ (part k).length < (rest k).length ∧ part k = (rest k).take (part k).length ∧ rest (k + 1) = (rest k).drop ((part k).length + 1)
  last : Lib.indexByte (rest (N - 1)) c = -1 ∧ part (N - 1) = rest (N - 1)

/-- The iterator's own cells. -/
structure SplitAt (c : UInt8) (Bs Bp Bv : Nat) (r : List UInt8) (W : World) : Prop where
  s : W.cell? ⟨Bs, 0, none⟩ = some (.string (bs r))
  sf : W.frozen? ⟨Bs, 0, none⟩ = false
  p : W.cell? ⟨Bp, 0, none⟩ = some (.string ⟨#[c]⟩)
  v : W.cell? ⟨Bv, 0, none⟩ = some (.int .i64 0)

theorem bs_take (l : List UInt8) (n : Nat) : (bs l).extract 0 n = bs (l.take n) := by
  apply ByteArray.ext
  simp [ByteArray.data_extract]
theorem bs_drop (l : List UInt8) (n : Nat) : (bs l).extract n l.length = bs (l.drop n) := by
  apply ByteArray.ext
  simp [ByteArray.data_extract, List.take_of_length_le]

/-- How much is left. -/
def leftOf (Bs : Nat) (W : World) : Nat := match W.cell? ⟨Bs, 0, none⟩ with
  | some (.string s) => s.size
  | _ => 0
theorem leftOf_of {Bs : Nat} {W : World} {l : List UInt8} (h : W.cell? ⟨Bs, 0, none⟩ = some (.string (bs l))) : leftOf Bs W = l.length := by
  simp only [leftOf, h]; rfl

set_option maxHeartbeats 4000000 in
theorem splitIter (n : Nat) (c : UInt8) (Bs Bp Bv N : Nat) (rest part : Nat → List UInt8) (hP : Parts c N rest part) (l : Nat) (J M : Nat → World → Prop) (X : World → Prop) (W : World)
    (hJ : ∀ k W, J k W → SplitAt c Bs Bp Bv (rest k) W) (hM : ∀ k W, M k W → SplitAt c Bs Bp Bv (rest k) W)
    (hnext : ∀ k W, k + 1 < N → M k W → J (k + 1) (W.setCell ⟨Bs, 0, none⟩ (.string (bs (rest (k + 1))))))
    (hY : ∀ k W, k < N → J k W → YieldAt Fence.wide (n - 1) Tryd.prog l #[.string (bs (part k))] W fun e W' => (e = .returned (.bool true) ∧ M k W') ∨ (e = .returned (.bool false) ∧ X W'))
    (h0 : J 0 W) :
    CallsIn Fence.wide n Tryd.prog 61 #[.func (.yield l) #[] #[], .pointer (some ⟨Bp, 0, none⟩), .pointer (some ⟨Bs, 0, none⟩), .pointer (some ⟨Bv, 0, none⟩)] W
      fun e W' => (∃ v, e = .returned v) ∧ (M (N - 1) W' ∨ X W') := by
  refine callsIn_of_wp Tryd.func61 rfl trivial ?_ rfl
  simp only [Tryd.ntmps61, List.size_toArray, List.length_cons, List.length_nil, Nat.reduceAdd, Nat.reduceSub, Array.replicate_succ, Array.replicate_zero, List.push_toArray, List.append_toArray, List.nil_append, List.cons_append]
  have hc := (hJ 0 W h0).p
  gi_wp2
  clear hc
  gi_loopw [] (fun wr => ∃ k, k < N ∧ J k wr) (fun wr => leftOf Bs wr)
  case atStart => exact ⟨0, hP.pos, h0⟩
  case round =>
    obtain ⟨k, hk, hJk⟩ := hrel
    obtain ⟨c1, c2, c3, c4⟩ := hJ k wr hJk
    have hlen := hP.len k hk
    have hlo := hide (leftOf_of c1)
    obtain ⟨fn, tmps, assign, body, hy, hR⟩ := hY k wr hk hJk
    have hix0 := Tryd.strings_Index_one (bs (rest k)) c wr
    replace hJk := hide hJk
    by_cases hmid : k + 1 < N
    · obtain ⟨h1, h2, h3, h4⟩ := hP.mid k hmid
      have hix : Calls Tryd.prog 29 #[.string (bs (rest k)), .string ⟨#[c]⟩] wr fun e w' => e = .returned (.int .i64 ((part k).length : Nat)) ∧ w' = wr := by
        rw [← h1]; exact hix0
      clear hix0
      replace hix := hide hix
      replace h1 := hide h1
      replace h3 := hide h3
      replace h4 := hide h4
      gi_wp2_with fail
      refine ⟨trivial, fun h => (by cases h), (callsIn_wide.2 hix.out).mono ?_⟩
      rintro e w' ⟨rfl, rfl⟩
      have hex : (bs (rest k)).extract 0 (part k).length = bs (part k) := by rw [bs_take, ← h3.out]
      have hex2 : (bs (rest k)).extract ((part k).length + 1) (rest k).length = bs (rest (k + 1)) := by rw [h4.out, bs_drop]
      gi_wp2
      refine ⟨fun h => (by cases h), hR.mono ?_⟩
      rintro e W2 (⟨rfl, hM2⟩ | ⟨rfl, hX2⟩)
      · obtain ⟨d1, d2, d3, d4⟩ := hM k W2 hM2
        have hn2 := hnext k W2 hmid hM2
        have hlo2 := hide (leftOf_of ((hJ _ _ hn2).s))
        have hll : Hid ((rest (k + 1)).length < (rest k).length) := by rw [h4.out]; refine hide ?_; simp; omega
        replace hM2 := hide hM2
        replace hn2 := hide hn2
        gi_wp2
        go_roundw
        case rel => exact ⟨k + 1, hmid, hn2.out⟩
        case measure => rw [hlo2.out, hlo.out]; exact hll.out
      · gi_wp2
        refine bodyPost_ret (results_none rfl _ _ _) rfl ?_
        exact ⟨⟨_, rfl⟩, .inr hX2⟩
    · obtain ⟨g1, g2⟩ := hP.last
      obtain rfl : k = N - 1 := by omega
      have hix : Calls Tryd.prog 29 #[.string (bs (rest (N - 1))), .string ⟨#[c]⟩] wr fun e w' => e = .returned (.int .i64 (-1)) ∧ w' = wr := by
        rw [← g1]; exact hix0
      clear hix0
      replace hix := hide hix
      rw [g2] at hy
      replace g1 := hide g1
      replace g2 := hide g2
      gi_wp2_with fail
      refine ⟨trivial, fun h => (by cases h), (callsIn_wide.2 hix.out).mono ?_⟩
      rintro e w' ⟨rfl, rfl⟩
      gi_wp2
      refine ⟨fun h => (by cases h), hR.mono ?_⟩
      rintro e W2 (⟨rfl, hM2⟩ | ⟨rfl, hX2⟩)
      · gi_wp2
        go_end0
        exact ⟨⟨_, rfl⟩, .inl hM2⟩
      · gi_wp2
        go_end0
        exact ⟨⟨_, rfl⟩, .inr hX2⟩

/-- What is asked of a round's end: it goes on, or it leaves by a return. D, D + 1: the loop's own two blocks. -/
def roundOut (D : Nat) (M X : World → Prop) (W : World) : Exit → Act → World → Prop
  | .normal, _, W' => (∀ b, D ≤ b → b ≤ D + 1 → W'.heap[b]? = W.heap[b]?) ∧ M W'
  | .ret, _, W' => (∀ b, D ≤ b → b ≤ D + 1 → W'.heap[b]? = W.heap[b]?) ∧ X W'
  | _, _, _ => False

/-- What holds whatever stands in the loop's own two blocks. -/
def Apart (D : Nat) (J : World → Prop) : Prop := ∀ W b o, D ≤ b → b ≤ D + 1 → J W → J (W.putObj b o)

set_option maxHeartbeats 2000000 in
/-- 'for x := range strings.SplitSeq(s, c)', outermost. -/
theorem rangeSplit (n : Nat) (c : UInt8) (Bs Bp Bv N : Nat) (rest part : Nat → List UInt8) (hP : Parts c N rest part) {g : Operand} {ps : Array Tmp} {assign body : Code} {Q : Exit → Act → World → Prop} {a : Act} {w : World}
    (hg : a.eval g = .func (.func 61) #[] #[.pointer (some ⟨Bp, 0, none⟩), .pointer (some ⟨Bs, 0, none⟩), .pointer (some ⟨Bv, 0, none⟩)])
    (hps : ps.size = 1) (J M : Nat → World → Prop) (X : World → Prop) (hJa : ∀ k, Apart w.heap.size (J k)) (hMa : ∀ k, Apart w.heap.size (M k)) (hXa : Apart w.heap.size X)
    (hB : Bs < w.heap.size)
    (hJ : ∀ k W, J k W → SplitAt c Bs Bp Bv (rest k) W) (hM : ∀ k W, M k W → SplitAt c Bs Bp Bv (rest k) W)
    (hnext : ∀ k W, k + 1 < N → M k W → J (k + 1) (W.setCell ⟨Bs, 0, none⟩ (.string (bs (rest (k + 1))))))
    (h0 : ∀ o o', J 0 ((w.alloc o).alloc o')) (a₁ : Nat → Act)
    (hassign : ∀ (l k : Nat) (W : World) (K : Act → World → Prop), K (a₁ k) W →
      assign.wpIn (Fence.wide.inRound l) (n - 1 - 1) Tryd.prog (Exit.then K (fun _ _ _ => False)) { tmps := (ps.zip #[.string (bs (part k))]).foldl (fun t (p, v) => t.setIfInBounds p v) a.tmps, defers := [] } W)
    (hbody : ∀ (l k : Nat) (W : World), k < N → w.heap.size + 1 < W.heap.size → J k W → body.wpIn (Fence.wide.inRound l) (n - 1 - 1) Tryd.prog (roundOut w.heap.size (M k) X W) (a₁ k) W)
    (hdone : ∀ W, M (N - 1) W → W.heap[w.heap.size]? = some (.deferred (some [])) → Q .normal { a with defers := { target := .collected w.heap.size, args := #[] } :: a.defers } W)
    (hstop : ∀ W, X W → W.heap[w.heap.size]? = some (.deferred (some [])) → Code.ret.wpIn Fence.wide n Tryd.prog Q { a with defers := { target := .collected w.heap.size, args := #[] } :: a.defers } W) :
    (Code.rangeFunc g ps assign body).wpIn Fence.wide n Tryd.prog Q a w := by
  refine wpIn_rangeFunc ?_
  intro fn hfn
  obtain ⟨rec, hrec⟩ : ∃ rec : LoopState → Option Code → Loop, rec = fun st pe => { state := st, pending := pe, fn, tmps := a.tmps, params := ps, assign, body, defers := w.heap.size } := ⟨_, rfl⟩
  obtain ⟨W1, hW1⟩ : ∃ W1, (w.alloc (.deferred (some []))).alloc (.loop (rec .ready none)) = W1 := ⟨_, rfl⟩
  have hL1 : W1.heap[w.heap.size + 1]? = some (.loop (rec .ready none)) := by
    rw [← hW1]
    have := heap_alloc_new (w.alloc (.deferred (some []))) (.loop (rec .ready none))
    rwa [World.size_alloc] at this
  have hD1 : W1.heap[w.heap.size]? = some (.deferred (some [])) := by
    rw [← hW1, heap_alloc_old (by simp)]
    exact heap_alloc_new w _
  refine ⟨w.heap.size + 1, [{ target := .collected w.heap.size, args := #[] }], W1, { target := .fn (.func 61) #[.pointer (some ⟨Bp, 0, none⟩), .pointer (some ⟨Bs, 0, none⟩), .pointer (some ⟨Bv, 0, none⟩)], args := #[.func (.yield (w.heap.size + 1)) #[] #[]] }, W1, 61,
    #[.func (.yield (w.heap.size + 1)) #[] #[]] ++ #[.pointer (some ⟨Bp, 0, none⟩), .pointer (some ⟨Bs, 0, none⟩), .pointer (some ⟨Bv, 0, none⟩)], W1, ?_, ?_, ?_, ?_, fun h => (by cases h), ?_⟩
  · rw [← hW1, hrec]
    exact run_enterLoop_outer _ _ _ _ _
  · simp only [resolve, hg]
    simp [go_sem]
  · intro f' hf'
    exact trivial
  · simp [invoke, go_sem]
  · refine (splitIter (n - 1) c Bs Bp Bv N rest part hP (w.heap.size + 1)
      (fun k W => J k W ∧ W.heap[w.heap.size + 1]? = some (.loop (rec .ready none)) ∧ W.heap[w.heap.size]? = some (.deferred (some [])))
      (fun k W => M k W ∧ W.heap[w.heap.size + 1]? = some (.loop (rec .ready none)) ∧ W.heap[w.heap.size]? = some (.deferred (some [])))
      (fun W => X W ∧ W.heap[w.heap.size + 1]? = some (.loop (rec .done (some .ret))) ∧ W.heap[w.heap.size]? = some (.deferred (some [])))
      W1 (fun k W h => hJ k W h.1) (fun k W h => hM k W h.1) ?_ ?_ ⟨by rw [← hW1]; exact h0 _ _, hL1, hD1⟩).mono ?_
    · rintro k W hk ⟨h1, h2, h3⟩
      exact ⟨hnext k W hk h1, (heap_setCell_ne (by show w.heap.size + 1 ≠ Bs; omega) _).trans h2, (heap_setCell_ne (by show w.heap.size ≠ Bs; omega) _).trans h3⟩
    · rintro k W hk ⟨h1, h2, h3⟩
      have hlt : w.heap.size + 1 < W.heap.size := lt_of_block h2
      have hy := run_yield (P := Tryd.prog) (args := #[.string (bs (part k))]) h2 (by rw [hrec]; exact hps.symm)
      rw [hrec] at hy
      refine ⟨fn, _, assign, body, hy, roundIn_of_wpIn hfn (hassign _ k W _ ⟨_, run_beginRound h2 (by rw [hrec]), ?_⟩)⟩
      have hb2 : (W.putObj (w.heap.size + 1) (.loop { rec .ready none with state := .busy })).heap[w.heap.size + 1]? = some (.loop { rec .ready none with state := .busy }) := World.putObj_heap_same hlt
      have hb3 : (W.putObj (w.heap.size + 1) (.loop { rec .ready none with state := .busy })).heap[w.heap.size]? = some (.deferred (some [])) := (World.putObj_heap_other (by omega)).trans h3
      refine wpIn_mono (hbody _ k _ hk (by rw [World.putObj_size]; exact hlt) (hJa k _ _ _ (by omega) (by omega) h1)) ?_
      intro e a3 W3 hp
      cases e with
      | normal =>
        obtain ⟨hkeep, hm3⟩ := hp
        have hl3 := (hkeep _ (by omega) (by omega)).trans hb2
        have hd3 := (hkeep _ (by omega) (by omega)).trans hb3
        have he := run_endRound (P := Tryd.prog) none hl3
        refine ⟨_, _, he, .inl ⟨rfl, hMa k _ _ _ (by omega) (by omega) hm3, ?_, (World.putObj_heap_other (by omega)).trans hd3⟩⟩
        rw [hrec]
        exact World.putObj_heap_same (lt_of_block hl3)
      | ret =>
        obtain ⟨hkeep, hm3⟩ := hp
        have hl3 := (hkeep _ (by omega) (by omega)).trans hb2
        have hd3 := (hkeep _ (by omega) (by omega)).trans hb3
        have he := run_endRound (P := Tryd.prog) (some .ret) hl3
        refine ⟨_, _, he, .inr ⟨rfl, hXa _ _ _ (by omega) (by omega) hm3, ?_, (World.putObj_heap_other (by omega)).trans hd3⟩⟩
        rw [hrec]
        exact World.putObj_heap_same (lt_of_block hl3)
      | exit id => exact hp.elim
      | goto t => exact hp.elim
      | panic ch => exact hp.elim
      | outgrown => exact hp.elim
    · rintro e W2 ⟨⟨v, rfl⟩, (⟨h1, h2, h3⟩ | ⟨h1, h2, h3⟩)⟩
      · have he := run_endLoop (P := Tryd.prog) h2 (by rw [hrec]; simp)
        exact ⟨_, _, he, by rw [hrec]; exact hdone _ (hMa _ _ _ _ (by omega) (by omega) h1) ((World.putObj_heap_other (by omega)).trans h3)⟩
      · have he := run_endLoop (P := Tryd.prog) h2 (by rw [hrec]; simp)
        exact ⟨_, _, he, by rw [hrec]; exact hstop _ (hXa _ _ _ (by omega) (by omega) h1) ((World.putObj_heap_other (by omega)).trans h3)⟩

theorem splitSeq_any (s sep : ByteArray) (w : World) :
    Calls Tryd.prog 23 #[.string s, .string sep] w fun e w' =>
      e = .returned (.func (.func 61) #[] #[.pointer (some ⟨w.heap.size + 1, 0, none⟩), .pointer (some ⟨w.heap.size, 0, none⟩), .pointer (some ⟨w.heap.size + 1 + 1, 0, none⟩)]) ∧
      w' = ((w.alloc (.cells #[.string s] 9)).alloc (.cells #[.string sep] 9)).alloc (.cells #[.int .i64 0] 3) := by
  have hin : Calls Tryd.prog 41 #[.string s, .string sep, .int .i64 0] w fun e w' =>
      e = .returned (.func (.func 61) #[] #[.pointer (some ⟨w.heap.size + 1, 0, none⟩), .pointer (some ⟨w.heap.size, 0, none⟩), .pointer (some ⟨w.heap.size + 1 + 1, 0, none⟩)]) ∧
      w' = ((w.alloc (.cells #[.string s] 9)).alloc (.cells #[.string sep] 9)).alloc (.cells #[.int .i64 0] 3) := by
    go_enter Tryd.func41, Tryd.ntmps41
    go_wp2
    go_ret
    exact ⟨rfl, rfl⟩
  replace hin := hide hin
  go_enter Tryd.func23, Tryd.ntmps23
  go_wp2_with fail
  refine hin.out.mono ?_
  rintro e w' ⟨rfl, rfl⟩
  go_wp2
  go_ret
  exact ⟨rfl, rfl⟩

end Go.Proofs.YthbaoocnnfnhnaaDoor
