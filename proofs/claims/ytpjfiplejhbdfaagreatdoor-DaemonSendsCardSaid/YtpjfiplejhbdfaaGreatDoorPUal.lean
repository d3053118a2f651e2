/- sane.tests, Look (contracts). -/
import Derived.Test.YtpjfiplejhbdfaaGreatDoorPUak
import Derived.Laws.EntriesVeiled
namespace Go.Proofs.YtpjfiplejhbdfaaGreatDoor
set_option linter.unusedSimpArgs false
open Go.RowKit
/-- Does test k say no? -/
def testB (p : PktS) (c : Nat) (k : Nat) : Bool :=
  if k = 0 then decide (p.version ≠ 4) else if k = 1 then decide (p.mode ≠ 4) else if k = 2 then decide (c = 0 ∨ p.orig ≠ c) else if k = 3 then decide (p.stratum = 0)
  else if k = 4 then decide (p.leap = 3) else if k = 5 then decide (15 < p.stratum) else decide (p.recv = 0 ∨ p.xmit = 0)
theorem test0_any (p : PktS) (c : Nat) (w : World) :
    Calls Tryz.prog 202 #[p.val, .int .u64 c] w fun e w' => e = .returned (.bool (testB p c 0)) ∧ Mod NoB w w' := by
  obtain ⟨v, hv⟩ : ∃ v, testB p c 0 = v := ⟨_, rfl⟩
  rw [hv]
  have hv2 : decide ((p.version : Int) ≠ 4) = v := by
    rw [← hv]
    show _ = decide (p.version ≠ 4)
    exact decide_eq_decide.2 (by omega)
  clear hv
  replace hv2 := hide hv2
  go_enter Tryz.func202, Tryz.ntmps202
  go_wp2
  all_goals
    go_ret
    refine ⟨bool_ret ?_, (Mod.refl _ _).alloc _⟩
    first
      | exact hv2.out
      | (rw [← hv2.out]
         refine Bool.eq_iff_iff.2 ?_
         (try simp only [true_iff, false_iff, bne_iff_ne, beq_iff_eq, Bool.or_eq_true, decide_eq_true_eq, ne_eq, Bool.not_eq_true', decide_eq_false_iff_not])
         all_goals (try omega))
theorem test1_any (p : PktS) (c : Nat) (w : World) :
    Calls Tryz.prog 203 #[p.val, .int .u64 c] w fun e w' => e = .returned (.bool (testB p c 1)) ∧ Mod NoB w w' := by
  obtain ⟨v, hv⟩ : ∃ v, testB p c 1 = v := ⟨_, rfl⟩
  rw [hv]
  have hv2 : decide ((p.mode : Int) ≠ 4) = v := by
    rw [← hv]
    show _ = decide (p.mode ≠ 4)
    exact decide_eq_decide.2 (by omega)
  clear hv
  replace hv2 := hide hv2
  go_enter Tryz.func203, Tryz.ntmps203
  go_wp2
  all_goals
    go_ret
    refine ⟨bool_ret ?_, (Mod.refl _ _).alloc _⟩
    first
      | exact hv2.out
      | (rw [← hv2.out]
         refine Bool.eq_iff_iff.2 ?_
         (try simp only [true_iff, false_iff, bne_iff_ne, beq_iff_eq, Bool.or_eq_true, decide_eq_true_eq, ne_eq, Bool.not_eq_true', decide_eq_false_iff_not])
         all_goals (try omega))
theorem test2_any (p : PktS) (c : Nat) (w : World) :
    Calls Tryz.prog 204 #[p.val, .int .u64 c] w fun e w' => e = .returned (.bool (testB p c 2)) ∧ Mod NoB w w' := by
  obtain ⟨v, hv⟩ : ∃ v, testB p c 2 = v := ⟨_, rfl⟩
  rw [hv]
  have hv2 : decide ((c : Int) = 0 ∨ (p.orig : Int) ≠ c) = v := by
    rw [← hv]
    show _ = decide (c = 0 ∨ p.orig ≠ c)
    exact decide_eq_decide.2 (by omega)
  clear hv
  replace hv2 := hide hv2
  go_enter Tryz.func204, Tryz.ntmps204
  go_wp2
  all_goals
    go_ret
    refine ⟨bool_ret ?_, (Mod.refl _ _).alloc _⟩
    first
      | exact hv2.out
      | (rw [← hv2.out]
         refine Bool.eq_iff_iff.2 ?_
         (try simp only [true_iff, false_iff, bne_iff_ne, beq_iff_eq, Bool.or_eq_true, decide_eq_true_eq, ne_eq, Bool.not_eq_true', decide_eq_false_iff_not])
         all_goals (try omega))
theorem test3_any (p : PktS) (c : Nat) (w : World) :
    Calls Tryz.prog 205 #[p.val, .int .u64 c] w fun e w' => e = .returned (.bool (testB p c 3)) ∧ Mod NoB w w' := by
  obtain ⟨v, hv⟩ : ∃ v, testB p c 3 = v := ⟨_, rfl⟩
  rw [hv]
  have hv2 : decide ((p.stratum : Int) = 0) = v := by
    rw [← hv]
    show _ = decide (p.stratum = 0)
    exact decide_eq_decide.2 (by omega)
  clear hv
  replace hv2 := hide hv2
  go_enter Tryz.func205, Tryz.ntmps205
  go_wp2
  all_goals
    go_ret
    refine ⟨bool_ret ?_, (Mod.refl _ _).alloc _⟩
    first
      | exact hv2.out
      | (rw [← hv2.out]
         refine Bool.eq_iff_iff.2 ?_
         (try simp only [true_iff, false_iff, bne_iff_ne, beq_iff_eq, Bool.or_eq_true, decide_eq_true_eq, ne_eq, Bool.not_eq_true', decide_eq_false_iff_not])
         all_goals (try omega))
theorem test4_any (p : PktS) (c : Nat) (w : World) :
    Calls Tryz.prog 206 #[p.val, .int .u64 c] w fun e w' => e = .returned (.bool (testB p c 4)) ∧ Mod NoB w w' := by
  obtain ⟨v, hv⟩ : ∃ v, testB p c 4 = v := ⟨_, rfl⟩
  rw [hv]
  have hv2 : decide ((p.leap : Int) = 3) = v := by
    rw [← hv]
    show _ = decide (p.leap = 3)
    exact decide_eq_decide.2 (by omega)
  clear hv
  replace hv2 := hide hv2
  go_enter Tryz.func206, Tryz.ntmps206
  go_wp2
  all_goals
    go_ret
    refine ⟨bool_ret ?_, (Mod.refl _ _).alloc _⟩
    first
      | exact hv2.out
      | (rw [← hv2.out]
         refine Bool.eq_iff_iff.2 ?_
         (try simp only [true_iff, false_iff, bne_iff_ne, beq_iff_eq, Bool.or_eq_true, decide_eq_true_eq, ne_eq, Bool.not_eq_true', decide_eq_false_iff_not])
         all_goals (try omega))
theorem test5_any (p : PktS) (c : Nat) (w : World) :
    Calls Tryz.prog 207 #[p.val, .int .u64 c] w fun e w' => e = .returned (.bool (testB p c 5)) ∧ Mod NoB w w' := by
  obtain ⟨v, hv⟩ : ∃ v, testB p c 5 = v := ⟨_, rfl⟩
  rw [hv]
  have hv2 : decide (15 < (p.stratum : Int)) = v := by
    rw [← hv]
    show _ = decide (15 < p.stratum)
    exact decide_eq_decide.2 (by omega)
  clear hv
  replace hv2 := hide hv2
  go_enter Tryz.func207, Tryz.ntmps207
  go_wp2
  all_goals
    go_ret
    refine ⟨bool_ret ?_, (Mod.refl _ _).alloc _⟩
    first
      | exact hv2.out
      | (rw [← hv2.out]
         refine Bool.eq_iff_iff.2 ?_
         (try simp only [true_iff, false_iff, bne_iff_ne, beq_iff_eq, Bool.or_eq_true, decide_eq_true_eq, ne_eq, Bool.not_eq_true', decide_eq_false_iff_not])
         all_goals (try omega))
theorem test6_any (p : PktS) (c : Nat) (w : World) :
    Calls Tryz.prog 208 #[p.val, .int .u64 c] w fun e w' => e = .returned (.bool (testB p c 6)) ∧ Mod NoB w w' := by
  obtain ⟨v, hv⟩ : ∃ v, testB p c 6 = v := ⟨_, rfl⟩
  rw [hv]
  have hv2 : decide ((p.recv : Int) = 0 ∨ (p.xmit : Int) = 0) = v := by
    rw [← hv]
    show _ = decide (p.recv = 0 ∨ p.xmit = 0)
    exact decide_eq_decide.2 (by omega)
  clear hv
  replace hv2 := hide hv2
  go_enter Tryz.func208, Tryz.ntmps208
  go_wp2
  all_goals
    go_ret
    refine ⟨bool_ret ?_, (Mod.refl _ _).alloc _⟩
    first
      | exact hv2.out
      | (rw [← hv2.out]
         refine Bool.eq_iff_iff.2 ?_
         (try simp only [true_iff, false_iff, bne_iff_ne, beq_iff_eq, Bool.or_eq_true, decide_eq_true_eq, ne_eq, Bool.not_eq_true', decide_eq_false_iff_not])
         all_goals (try omega))
abbrev testsC : Array Value := #[.int .i64 5, .func (.func 202) #[] #[], .int .i64 6, .func (.func 203) #[] #[], .int .i64 7, .func (.func 204) #[] #[], .int .i64 8, .func (.func 205) #[] #[], .int .i64 9, .func (.func 206) #[] #[], .int .i64 10, .func (.func 207) #[] #[], .int .i64 11, .func (.func 208) #[] #[]]
theorem tests_any (w : World) :
    Calls Tryz.prog 175 #[] w fun e w' => e = .returned (.slice (some ⟨w.heap.size, 0, none⟩) 7 7) ∧ w'.heap[w.heap.size]? = some (.cells testsC 322 (0, 0)) ∧ Mod NoB w w' := by
  go_enter Tryz.func175, Tryz.ntmps175
  go_wp2
  go_ret
  exact ⟨rfl, heap_alloc_new _ _, (Mod.refl _ _).alloc _⟩
/-- Which test says no first. -/
def firstB (tb : Nat → Bool) : Nat := if tb 0 then 0 else if tb 1 then 1 else if tb 2 then 2 else if tb 3 then 3 else if tb 4 then 4 else if tb 5 then 5 else if tb 6 then 6 else 7
theorem firstB_at {tb : Nat → Bool} {k : Nat} (hk : k < 7) (h : ∀ j, j < k → tb j = false) (hb : tb k = true) : firstB tb = k := by
  unfold firstB
  match k, hk with
  | 0, _ => simp [hb]
  | 1, _ => simp [h 0 (by decide), hb]
  | 2, _ => simp [h 0 (by decide), h 1 (by decide), hb]
  | 3, _ => simp [h 0 (by decide), h 1 (by decide), h 2 (by decide), hb]
  | 4, _ => simp [h 0 (by decide), h 1 (by decide), h 2 (by decide), h 3 (by decide), hb]
  | 5, _ => simp [h 0 (by decide), h 1 (by decide), h 2 (by decide), h 3 (by decide), h 4 (by decide), hb]
  | 6, _ => simp [h 0 (by decide), h 1 (by decide), h 2 (by decide), h 3 (by decide), h 4 (by decide), h 5 (by decide), hb]
theorem firstB_none {tb : Nat → Bool} (h : ∀ j, j < 7 → tb j = false) : firstB tb = 7 := by
  unfold firstB
  simp [h 0 (by decide), h 1 (by decide), h 2 (by decide), h 3 (by decide), h 4 (by decide), h 5 (by decide), h 6 (by decide)]
abbrev zeroPktV : Value := .agg #[.int .u8 0, .int .u8 0, .int .u8 0, .int .u8 0, .int .i8 0, .int .i8 0, .int .u32 0, .int .u32 0, .int .u32 0, .int .u64 0, .int .u64 0, .int .u64 0, .int .u64 0]
def lookOut (tb : Nat → Bool) (full : Value) : Value := .tuple #[if firstB tb = 7 ∨ firstB tb = 3 then full else zeroPktV, .int .i64 (if firstB tb = 7 then 0 else 5 + firstB tb)]
theorem lookOut_at {tb : Nat → Bool} {full : Value} {k : Nat} (hk : k < 7) (h : ∀ j, j < k → tb j = false) (hb : tb k = true) : lookOut tb full = .tuple #[if k = 3 then full else zeroPktV, .int .i64 (5 + k)] := by
  unfold lookOut
  rw [firstB_at hk h hb]
  have : ¬ k = 7 := by omega
  simp [this]
theorem lookOut_none {tb : Nat → Bool} {full : Value} (h : ∀ j, j < 7 → tb j = false) : lookOut tb full = .tuple #[full, .int .i64 0] := by
  unfold lookOut
  rw [firstB_none h]
  simp
abbrev set13 (w : World) (g : Nat) (a0 a1 a2 a3 a4 a5 a6 a7 a8 a9 a10 a11 a12 : Value) : World := (((((((((((((w.setCell ⟨g, 0, none⟩ a0).setCell ⟨g, 1, none⟩ a1).setCell ⟨g, 2, none⟩ a2).setCell ⟨g, 3, none⟩ a3).setCell ⟨g, 4, none⟩ a4).setCell ⟨g, 5, none⟩ a5).setCell ⟨g, 6, none⟩ a6).setCell ⟨g, 7, none⟩ a7).setCell ⟨g, 8, none⟩ a8).setCell ⟨g, 9, none⟩ a9).setCell ⟨g, 10, none⟩ a10).setCell ⟨g, 11, none⟩ a11).setCell ⟨g, 12, none⟩ a12)
theorem set13_heap {w : World} {g : Nat} {t : TypeId} {c0 c1 c2 c3 c4 c5 c6 c7 c8 c9 c10 c11 c12 : Value} (h : w.heap[g]? = some (.cells #[c0, c1, c2, c3, c4, c5, c6, c7, c8, c9, c10, c11, c12] t (0, 0))) (a0 a1 a2 a3 a4 a5 a6 a7 a8 a9 a10 a11 a12 : Value) : (set13 w g a0 a1 a2 a3 a4 a5 a6 a7 a8 a9 a10 a11 a12).heap[g]? = some (.cells #[a0, a1, a2, a3, a4, a5, a6, a7, a8, a9, a10, a11, a12] t (0, 0)) := by
  have := heap_setCell_eq (heap_setCell_eq (heap_setCell_eq (heap_setCell_eq (heap_setCell_eq (heap_setCell_eq (heap_setCell_eq (heap_setCell_eq (heap_setCell_eq (heap_setCell_eq (heap_setCell_eq (heap_setCell_eq (heap_setCell_eq (h) (o := 0) a0) (o := 1) a1) (o := 2) a2) (o := 3) a3) (o := 4) a4) (o := 5) a5) (o := 6) a6) (o := 7) a7) (o := 8) a8) (o := 9) a9) (o := 10) a10) (o := 11) a11) (o := 12) a12
  simpa using this
theorem set13_ne {w : World} {g h : Nat} (hn : ¬ h = g) (a0 a1 a2 a3 a4 a5 a6 a7 a8 a9 a10 a11 a12 : Value) : (set13 w g a0 a1 a2 a3 a4 a5 a6 a7 a8 a9 a10 a11 a12).heap[h]? = w.heap[h]? := by
  unfold set13
  repeat rw [heap_setCell_ne hn]
theorem set13_mod {S : Nat → Prop} {a w : World} {g : Nat} (h : Mod S a w) (hg : a.heap.size ≤ g) (a0 a1 a2 a3 a4 a5 a6 a7 a8 a9 a10 a11 a12 : Value) : Mod S a (set13 w g a0 a1 a2 a3 a4 a5 a6 a7 a8 a9 a10 a11 a12) :=
  (((((((((((((h).setCell (Or.inr hg) _).setCell (Or.inr hg) _).setCell (Or.inr hg) _).setCell (Or.inr hg) _).setCell (Or.inr hg) _).setCell (Or.inr hg) _).setCell (Or.inr hg) _).setCell (Or.inr hg) _).setCell (Or.inr hg) _).setCell (Or.inr hg) _).setCell (Or.inr hg) _).setCell (Or.inr hg) _).setCell (Or.inr hg) _
set_option maxRecDepth 100000 in
set_option maxHeartbeats 8000000 in
theorem look_core (y0 y1 y2 y3 y4 y5 y6 y7 y8 y9 y10 y11 y12 : Int) (tb : Nat → Bool) (c : Nat) (sl : Value)
    (h0 : ∀ w, Calls Tryz.prog 202 #[.agg #[.int .u8 y0, .int .u8 y1, .int .u8 y2, .int .u8 y3, .int .i8 y4, .int .i8 y5, .int .u32 y6, .int .u32 y7, .int .u32 y8, .int .u64 y9, .int .u64 y10, .int .u64 y11, .int .u64 y12], .int .u64 c] w fun e w' => e = .returned (.bool (tb 0)) ∧ Mod NoB w w') (h1 : ∀ w, Calls Tryz.prog 203 #[.agg #[.int .u8 y0, .int .u8 y1, .int .u8 y2, .int .u8 y3, .int .i8 y4, .int .i8 y5, .int .u32 y6, .int .u32 y7, .int .u32 y8, .int .u64 y9, .int .u64 y10, .int .u64 y11, .int .u64 y12], .int .u64 c] w fun e w' => e = .returned (.bool (tb 1)) ∧ Mod NoB w w') (h2 : ∀ w, Calls Tryz.prog 204 #[.agg #[.int .u8 y0, .int .u8 y1, .int .u8 y2, .int .u8 y3, .int .i8 y4, .int .i8 y5, .int .u32 y6, .int .u32 y7, .int .u32 y8, .int .u64 y9, .int .u64 y10, .int .u64 y11, .int .u64 y12], .int .u64 c] w fun e w' => e = .returned (.bool (tb 2)) ∧ Mod NoB w w') (h3 : ∀ w, Calls Tryz.prog 205 #[.agg #[.int .u8 y0, .int .u8 y1, .int .u8 y2, .int .u8 y3, .int .i8 y4, .int .i8 y5, .int .u32 y6, .int .u32 y7, .int .u32 y8, .int .u64 y9, .int .u64 y10, .int .u64 y11, .int .u64 y12], .int .u64 c] w fun e w' => e = .returned (.bool (tb 3)) ∧ Mod NoB w w') (h4 : ∀ w, Calls Tryz.prog 206 #[.agg #[.int .u8 y0, .int .u8 y1, .int .u8 y2, .int .u8 y3, .int .i8 y4, .int .i8 y5, .int .u32 y6, .int .u32 y7, .int .u32 y8, .int .u64 y9, .int .u64 y10, .int .u64 y11, .int .u64 y12], .int .u64 c] w fun e w' => e = .returned (.bool (tb 4)) ∧ Mod NoB w w') (h5 : ∀ w, Calls Tryz.prog 207 #[.agg #[.int .u8 y0, .int .u8 y1, .int .u8 y2, .int .u8 y3, .int .i8 y4, .int .i8 y5, .int .u32 y6, .int .u32 y7, .int .u32 y8, .int .u64 y9, .int .u64 y10, .int .u64 y11, .int .u64 y12], .int .u64 c] w fun e w' => e = .returned (.bool (tb 5)) ∧ Mod NoB w w') (h6 : ∀ w, Calls Tryz.prog 208 #[.agg #[.int .u8 y0, .int .u8 y1, .int .u8 y2, .int .u8 y3, .int .i8 y4, .int .i8 y5, .int .u32 y6, .int .u32 y7, .int .u32 y8, .int .u64 y9, .int .u64 y10, .int .u64 y11, .int .u64 y12], .int .u64 c] w fun e w' => e = .returned (.bool (tb 6)) ∧ Mod NoB w w')
    (w : World)
    (hG : ∀ w', Mod NoB w w' → Calls Tryz.prog 127 #[sl] w' fun e w'' => e = .returned (.tuple #[.agg #[.int .u8 y0, .int .u8 y1, .int .u8 y2, .int .u8 y3, .int .i8 y4, .int .i8 y5, .int .u32 y6, .int .u32 y7, .int .u32 y8, .int .u64 y9, .int .u64 y10, .int .u64 y11, .int .u64 y12], .int .i64 0]) ∧ Mod NoB w' w'') :
    Calls Tryz.prog 145 #[sl, .int .u64 c] w fun e w' => e = .returned (lookOut tb (.agg #[.int .u8 y0, .int .u8 y1, .int .u8 y2, .int .u8 y3, .int .i8 y4, .int .i8 y5, .int .u32 y6, .int .u32 y7, .int .u32 y8, .int .u64 y9, .int .u64 y10, .int .u64 y11, .int .u64 y12])) ∧ Mod NoB w w' := by
  obtain ⟨W, hW⟩ : ∃ W, w.alloc (.cells #[.int .u8 0, .int .u8 0, .int .u8 0, .int .u8 0, .int .i8 0, .int .i8 0, .int .u32 0, .int .u32 0, .int .u32 0, .int .u64 0, .int .u64 0, .int .u64 0, .int .u64 0] 119) = W := ⟨_, rfl⟩
  have hm0 := hide (hW ▸ (Mod.refl NoB w).alloc (.cells #[.int .u8 0, .int .u8 0, .int .u8 0, .int .u8 0, .int .i8 0, .int .i8 0, .int .u32 0, .int .u32 0, .int .u32 0, .int .u64 0, .int .u64 0, .int .u64 0, .int .u64 0] 119))
  have hr0 := hide (hW ▸ heap_alloc_new w (.cells #[.int .u8 0, .int .u8 0, .int .u8 0, .int .u8 0, .int .i8 0, .int .i8 0, .int .u32 0, .int .u32 0, .int .u32 0, .int .u64 0, .int .u64 0, .int .u64 0, .int .u64 0] 119))
  replace hG := hide (hG W hm0.out)
  replace h0 := hide h0
  replace h1 := hide h1
  replace h2 := hide h2
  replace h3 := hide h3
  replace h4 := hide h4
  replace h5 := hide h5
  replace h6 := hide h6
  go_enter Tryz.func145, Tryz.ntmps145
  go_wp2_with fail
  refine hG.out.mono ?_
  rintro e w1 ⟨rfl, hm⟩
  have hlt := lt_of_block (hm.heap hr0.out id)
  replace hr0 := hide ((heap_alloc_old hlt (.cells #[.int .u8 y0, .int .u8 y1, .int .u8 y2, .int .u8 y3, .int .i8 y4, .int .i8 y5, .int .u32 y6, .int .u32 y7, .int .u32 y8, .int .u64 y9, .int .u64 y10, .int .u64 y11, .int .u64 y12] 119)).trans (hm.heap hr0.out id))
  have hbx := hide (heap_alloc_new w1 (.cells #[.int .u8 y0, .int .u8 y1, .int .u8 y2, .int .u8 y3, .int .i8 y4, .int .i8 y5, .int .u32 y6, .int .u32 y7, .int .u32 y8, .int .u64 y9, .int .u64 y10, .int .u64 y11, .int .u64 y12] 119))
  replace hm0 := hide ((hm0.out.trans hm).alloc (.cells #[.int .u8 y0, .int .u8 y1, .int .u8 y2, .int .u8 y3, .int .i8 y4, .int .i8 y5, .int .u32 y6, .int .u32 y7, .int .u32 y8, .int .u64 y9, .int .u64 y10, .int .u64 y11, .int .u64 y12] 119))
  have hle := hm0.out.size
  have hlw : w.heap.size < w1.heap.size := lt_of_block (hm.heap (hide (hW ▸ heap_alloc_new w (.cells #[.int .u8 0, .int .u8 0, .int .u8 0, .int .u8 0, .int .i8 0, .int .i8 0, .int .u32 0, .int .u32 0, .int .u32 0, .int .u64 0, .int .u64 0, .int .u64 0, .int .u64 0] 119))).out id)
  clear hm hlt hW
  obtain ⟨w2, hw2⟩ : ∃ w2, w1.alloc (.cells #[.int .u8 y0, .int .u8 y1, .int .u8 y2, .int .u8 y3, .int .i8 y4, .int .i8 y5, .int .u32 y6, .int .u32 y7, .int .u32 y8, .int .u64 y9, .int .u64 y10, .int .u64 y11, .int .u64 y12] 119) = w2 := ⟨_, rfl⟩
  rw [hw2] at hr0 hbx hm0 hle
  go_wp2_with fail
  refine (tests_any _).mono ?_
  rintro e w3 ⟨rfl, htb, hm3⟩
  replace hr0 := hide (hm3.heap hr0.out id)
  replace hbx := hide (hm3.heap hbx.out id)
  replace hm0 := hide (hm0.out.trans hm3)
  have hlt3 := lt_of_block hbx.out
  have htl := lt_of_block htb
  replace htb := hide htb
  clear hm3
  go_wp2_with fail
  go_loopw [20] (fun vi wr => ∃ k : Nat, k ≤ 7 ∧ vi = .int .i64 (k : Int) ∧ (∀ j, j < k → tb j = false) ∧ Mod NoB w3 wr) (fun vi _ => 7 - (intOf vi).toNat)
  case atStart => exact ⟨0, by omega, rfl, fun j hj => by omega, Mod.refl _ _⟩
  case round =>
    obtain ⟨k, hk7, rfl, hbk, hmr⟩ := hrel
    have hr1 := hide (hmr.heap hr0.out id)
    have hb1 := hide (hmr.heap hbx.out id)
    have ht1 := hide (hmr.heap htb.out id)
    have hm1 := hide (hm0.out.trans hmr)
    have hlr := lt_of_block hb1.out
    have hlt := lt_of_block ht1.out
    replace hmr := hide hmr
    by_cases hk : k < 7
    · obtain ⟨F, hc1, hc0, hent, hcall⟩ : ∃ F, wr.cell? ⟨w2.heap.size, k * 2 + 1, none⟩ = some (.func (.func F) #[] #[]) ∧ wr.cell? ⟨w2.heap.size, k * 2, none⟩ = some (.int .i64 (5 + (k : Int))) ∧
          (∀ args W, (callFunc F args).run Tryz.prog W = .ok (.enter F args) W) ∧ ∀ W, Calls Tryz.prog F #[.agg #[.int .u8 y0, .int .u8 y1, .int .u8 y2, .int .u8 y3, .int .i8 y4, .int .i8 y5, .int .u32 y6, .int .u32 y7, .int .u32 y8, .int .u64 y9, .int .u64 y10, .int .u64 y11, .int .u64 y12], .int .u64 c] W fun e W' => e = .returned (.bool (tb k)) ∧ Mod NoB W W' := by
        match k, hk with
        | 0, _ => exact ⟨202, cell_of_block ht1.out 1 rfl, cell_of_block ht1.out 0 rfl, enters_of Tryz.func202 (by kernel_rfl) rfl, h0.out⟩
        | 1, _ => exact ⟨203, cell_of_block ht1.out 3 rfl, cell_of_block ht1.out 2 rfl, enters_of Tryz.func203 (by kernel_rfl) rfl, h1.out⟩
        | 2, _ => exact ⟨204, cell_of_block ht1.out 5 rfl, cell_of_block ht1.out 4 rfl, enters_of Tryz.func204 (by kernel_rfl) rfl, h2.out⟩
        | 3, _ => exact ⟨205, cell_of_block ht1.out 7 rfl, cell_of_block ht1.out 6 rfl, enters_of Tryz.func205 (by kernel_rfl) rfl, h3.out⟩
        | 4, _ => exact ⟨206, cell_of_block ht1.out 9 rfl, cell_of_block ht1.out 8 rfl, enters_of Tryz.func206 (by kernel_rfl) rfl, h4.out⟩
        | 5, _ => exact ⟨207, cell_of_block ht1.out 11 rfl, cell_of_block ht1.out 10 rfl, enters_of Tryz.func207 (by kernel_rfl) rfl, h5.out⟩
        | 6, _ => exact ⟨208, cell_of_block ht1.out 13 rfl, cell_of_block ht1.out 12 rfl, enters_of Tryz.func208 (by kernel_rfl) rfl, h6.out⟩

      have hr0' := hide ((heap_alloc_old (lt_of_block hr1.out) (.cells #[.int .i64 (5 + (k : Int)), .func (.func F) #[] #[]] 322)).trans hr1.out)
      have hb0' := hide ((heap_alloc_old hlr (.cells #[.int .i64 (5 + (k : Int)), .func (.func F) #[] #[]] 322)).trans hb1.out)
      have hn0' := hide (heap_alloc_new wr (.cells #[.int .i64 (5 + (k : Int)), .func (.func F) #[] #[]] 322))
      have hm2' := hide (hm1.out.alloc (.cells #[.int .i64 (5 + (k : Int)), .func (.func F) #[] #[]] 322))
      have hmr2 := hide (hmr.out.alloc (.cells #[.int .i64 (5 + (k : Int)), .func (.func F) #[] #[]] 322))
      replace hcall := hide hcall
      have b0 := cell_of_block hb0'.out 0 rfl
      have b1 := cell_of_block hb0'.out 1 rfl
      have b2 := cell_of_block hb0'.out 2 rfl
      have b3 := cell_of_block hb0'.out 3 rfl
      have b4 := cell_of_block hb0'.out 4 rfl
      have b5 := cell_of_block hb0'.out 5 rfl
      have b6 := cell_of_block hb0'.out 6 rfl
      have b7 := cell_of_block hb0'.out 7 rfl
      have b8 := cell_of_block hb0'.out 8 rfl
      have b9 := cell_of_block hb0'.out 9 rfl
      have b10 := cell_of_block hb0'.out 10 rfl
      have b11 := cell_of_block hb0'.out 11 rfl
      have b12 := cell_of_block hb0'.out 12 rfl
      have hk0 : (0 : Int) ≤ (k : Int) := by omega
      have hk1 : (k : Int) < 7 := by omega
      have hsz3 : w3.heap.size ≤ wr.heap.size := hmr.out.size
      go_wp2_with fail
      refine (hcall.out _).mono ?_
      rintro e w4 ⟨rfl, hm4⟩
      clear b0 b1 b2 b3 b4 b5 b6 b7 b8 b9 b10 b11 b12 hc0 hc1
      replace hr0' := hide (hm4.heap hr0'.out id)
      replace hb0' := hide (hm4.heap hb0'.out id)
      replace hn0' := hide (hm4.heap hn0'.out id)
      replace hm2' := hide (hm2'.out.trans hm4)
      replace hmr2 := hide (hmr2.out.trans hm4)
      clear hm4
      have hy := cell_of_block hn0'.out 0 rfl
      cases htk : tb k with
      | false =>
        have hjk : ∀ j, j < k + 1 → tb j = false := by
          intro j hj
          rcases Nat.lt_or_ge j k with h | h
          · exact hbk j h
          · obtain rfl : j = k := by omega
            exact htk
        replace hjk := hide hjk
        go_wp2_with fail
        go_roundw
        case rel => exact ⟨k + 1, by omega, by go_num, hjk.out, hmr2.out⟩
        case measure => simp [intOf]; omega
      | true =>
        have hout := hide (lookOut_at (full := .agg #[.int .u8 y0, .int .u8 y1, .int .u8 y2, .int .u8 y3, .int .i8 y4, .int .i8 y5, .int .u32 y6, .int .u32 y7, .int .u32 y8, .int .u64 y9, .int .u64 y10, .int .u64 y11, .int .u64 y12]) hk hbk htk)
        by_cases hk3 : k = 3
        · subst hk3
          have r0 := cell_of_block hr0'.out 0 rfl
          have z0 := frozen_of_block hr0'.out 0
          have b0 := cell_of_block hb0'.out 0 rfl
          have r1 := cell_of_block hr0'.out 1 rfl
          have z1 := frozen_of_block hr0'.out 1
          have b1 := cell_of_block hb0'.out 1 rfl
          have r2 := cell_of_block hr0'.out 2 rfl
          have z2 := frozen_of_block hr0'.out 2
          have b2 := cell_of_block hb0'.out 2 rfl
          have r3 := cell_of_block hr0'.out 3 rfl
          have z3 := frozen_of_block hr0'.out 3
          have b3 := cell_of_block hb0'.out 3 rfl
          have r4 := cell_of_block hr0'.out 4 rfl
          have z4 := frozen_of_block hr0'.out 4
          have b4 := cell_of_block hb0'.out 4 rfl
          have r5 := cell_of_block hr0'.out 5 rfl
          have z5 := frozen_of_block hr0'.out 5
          have b5 := cell_of_block hb0'.out 5 rfl
          have r6 := cell_of_block hr0'.out 6 rfl
          have z6 := frozen_of_block hr0'.out 6
          have b6 := cell_of_block hb0'.out 6 rfl
          have r7 := cell_of_block hr0'.out 7 rfl
          have z7 := frozen_of_block hr0'.out 7
          have b7 := cell_of_block hb0'.out 7 rfl
          have r8 := cell_of_block hr0'.out 8 rfl
          have z8 := frozen_of_block hr0'.out 8
          have b8 := cell_of_block hb0'.out 8 rfl
          have r9 := cell_of_block hr0'.out 9 rfl
          have z9 := frozen_of_block hr0'.out 9
          have b9 := cell_of_block hb0'.out 9 rfl
          have r10 := cell_of_block hr0'.out 10 rfl
          have z10 := frozen_of_block hr0'.out 10
          have b10 := cell_of_block hb0'.out 10 rfl
          have r11 := cell_of_block hr0'.out 11 rfl
          have z11 := frozen_of_block hr0'.out 11
          have b11 := cell_of_block hb0'.out 11 rfl
          have r12 := cell_of_block hr0'.out 12 rfl
          have z12 := frozen_of_block hr0'.out 12
          have b12 := cell_of_block hb0'.out 12 rfl
          clear h0 h1 h2 h3 h4 h5 h6 hG htb hr1 hb1 ht1 hbx hr0 hm1 hm0 hcall hmr hmr2
          have hset := hide (set13_heap (w := w4) hr0'.out (.int .u8 y0) (.int .u8 y1) (.int .u8 y2) (.int .u8 y3) (.int .i8 y4) (.int .i8 y5) (.int .u32 y6) (.int .u32 y7) (.int .u32 y8) (.int .u64 y9) (.int .u64 y10) (.int .u64 y11) (.int .u64 y12))
          have hmf := hide (set13_mod (w := w4) (g := w.heap.size) hm2'.out (Nat.le_refl _) (.int .u8 y0) (.int .u8 y1) (.int .u8 y2) (.int .u8 y3) (.int .i8 y4) (.int .i8 y5) (.int .u32 y6) (.int .u32 y7) (.int .u32 y8) (.int .u64 y9) (.int .u64 y10) (.int .u64 y11) (.int .u64 y12))
          obtain ⟨wf, hwf⟩ : ∃ wf, set13 w4 w.heap.size (.int .u8 y0) (.int .u8 y1) (.int .u8 y2) (.int .u8 y3) (.int .i8 y4) (.int .i8 y5) (.int .u32 y6) (.int .u32 y7) (.int .u32 y8) (.int .u64 y9) (.int .u64 y10) (.int .u64 y11) (.int .u64 y12) = wf := ⟨_, rfl⟩
          rw [hwf] at hset hmf
          replace hwf := hide hwf
          go_wp2_with fail
          go_region
          all_goals
            go_wp2_with fail
            have hwf := hwf.out
            unfold set13 at hwf
            rw [hwf]
            replace hset : Hid (wf.drew.heap[w.heap.size]? = _) := hset
            have d0 := cell_of_block hset.out 0 (v := .int .u8 y0) rfl
            have d1 := cell_of_block hset.out 1 (v := .int .u8 y1) rfl
            have d2 := cell_of_block hset.out 2 (v := .int .u8 y2) rfl
            have d3 := cell_of_block hset.out 3 (v := .int .u8 y3) rfl
            have d4 := cell_of_block hset.out 4 (v := .int .i8 y4) rfl
            have d5 := cell_of_block hset.out 5 (v := .int .i8 y5) rfl
            have d6 := cell_of_block hset.out 6 (v := .int .u32 y6) rfl
            have d7 := cell_of_block hset.out 7 (v := .int .u32 y7) rfl
            have d8 := cell_of_block hset.out 8 (v := .int .u32 y8) rfl
            have d9 := cell_of_block hset.out 9 (v := .int .u64 y9) rfl
            have d10 := cell_of_block hset.out 10 (v := .int .u64 y10) rfl
            have d11 := cell_of_block hset.out 11 (v := .int .u64 y11) rfl
            have d12 := cell_of_block hset.out 12 (v := .int .u64 y12) rfl
            exact bodyPost_ret (v := .tuple #[.agg #[.int .u8 y0, .int .u8 y1, .int .u8 y2, .int .u8 y3, .int .i8 y4, .int .i8 y5, .int .u32 y6, .int .u32 y7, .int .u32 y8, .int .u64 y9, .int .u64 y10, .int .u64 y11, .int .u64 y12], .int .i64 8]) (by simp [results, Tryz.results145, go_sem, d0, d1, d2, d3, d4, d5, d6, d7, d8, d9, d10, d11, d12]) rfl ⟨by rw [hout.out]; rfl, hmf.out.drew⟩
        · clear h0 h1 h2 h3 h4 h5 h6 hG htb hr1 hb1 ht1 hbx hr0 hm1 hm0 hcall hmr hmr2
          have hnz : ¬ w.heap.size = w1.heap.size := by omega
          have hk8 : (5 + (k : Int) != 8) = true := by simp; omega
          have hset1 := hide (set13_heap (w := w4) hb0'.out (.int .u8 0) (.int .u8 0) (.int .u8 0) (.int .u8 0) (.int .i8 0) (.int .i8 0) (.int .u32 0) (.int .u32 0) (.int .u32 0) (.int .u64 0) (.int .u64 0) (.int .u64 0) (.int .u64 0))
          have hmf1 := hide (set13_mod (w := w4) (g := w1.heap.size) hm2'.out (by omega) (.int .u8 0) (.int .u8 0) (.int .u8 0) (.int .u8 0) (.int .i8 0) (.int .i8 0) (.int .u32 0) (.int .u32 0) (.int .u32 0) (.int .u64 0) (.int .u64 0) (.int .u64 0) (.int .u64 0))
          have hrk := hide (show (set13 w4 w1.heap.size (.int .u8 0) (.int .u8 0) (.int .u8 0) (.int .u8 0) (.int .i8 0) (.int .i8 0) (.int .u32 0) (.int .u32 0) (.int .u32 0) (.int .u64 0) (.int .u64 0) (.int .u64 0) (.int .u64 0)).heap[w.heap.size]? = _ from set13_ne hnz (.int .u8 0) (.int .u8 0) (.int .u8 0) (.int .u8 0) (.int .i8 0) (.int .i8 0) (.int .u32 0) (.int .u32 0) (.int .u32 0) (.int .u64 0) (.int .u64 0) (.int .u64 0) (.int .u64 0) |>.trans hr0'.out)
          have hnk := hide (show (set13 w4 w1.heap.size (.int .u8 0) (.int .u8 0) (.int .u8 0) (.int .u8 0) (.int .i8 0) (.int .i8 0) (.int .u32 0) (.int .u32 0) (.int .u32 0) (.int .u64 0) (.int .u64 0) (.int .u64 0) (.int .u64 0)).heap[wr.heap.size]? = _ from set13_ne (by omega) (.int .u8 0) (.int .u8 0) (.int .u8 0) (.int .u8 0) (.int .i8 0) (.int .i8 0) (.int .u32 0) (.int .u32 0) (.int .u32 0) (.int .u64 0) (.int .u64 0) (.int .u64 0) (.int .u64 0) |>.trans hn0'.out)
          obtain ⟨wz, hwz⟩ : ∃ wz, set13 w4 w1.heap.size (.int .u8 0) (.int .u8 0) (.int .u8 0) (.int .u8 0) (.int .i8 0) (.int .i8 0) (.int .u32 0) (.int .u32 0) (.int .u32 0) (.int .u64 0) (.int .u64 0) (.int .u64 0) (.int .u64 0) = wz := ⟨_, rfl⟩
          rw [hwz] at hset1 hmf1 hrk hnk
          have hset := hide (set13_heap (w := wz) hrk.out (.int .u8 0) (.int .u8 0) (.int .u8 0) (.int .u8 0) (.int .i8 0) (.int .i8 0) (.int .u32 0) (.int .u32 0) (.int .u32 0) (.int .u64 0) (.int .u64 0) (.int .u64 0) (.int .u64 0))
          have hmf := hide (set13_mod (w := wz) (g := w.heap.size) hmf1.out (Nat.le_refl _) (.int .u8 0) (.int .u8 0) (.int .u8 0) (.int .u8 0) (.int .i8 0) (.int .i8 0) (.int .u32 0) (.int .u32 0) (.int .u32 0) (.int .u64 0) (.int .u64 0) (.int .u64 0) (.int .u64 0))
          obtain ⟨wf, hwf⟩ : ∃ wf, set13 wz w.heap.size (.int .u8 0) (.int .u8 0) (.int .u8 0) (.int .u8 0) (.int .i8 0) (.int .i8 0) (.int .u32 0) (.int .u32 0) (.int .u32 0) (.int .u64 0) (.int .u64 0) (.int .u64 0) (.int .u64 0) = wf := ⟨_, rfl⟩
          rw [hwf] at hset hmf
          replace hwf := hide hwf
          unfold set13 at hwz
          have hy2 := cell_of_block hnk.out 0 rfl
          have b0 := cell_of_block hb0'.out 0 rfl
          have x0 := frozen_of_block hb0'.out 0
          have b1 := cell_of_block hb0'.out 1 rfl
          have x1 := frozen_of_block hb0'.out 1
          have b2 := cell_of_block hb0'.out 2 rfl
          have x2 := frozen_of_block hb0'.out 2
          have b3 := cell_of_block hb0'.out 3 rfl
          have x3 := frozen_of_block hb0'.out 3
          have b4 := cell_of_block hb0'.out 4 rfl
          have x4 := frozen_of_block hb0'.out 4
          have b5 := cell_of_block hb0'.out 5 rfl
          have x5 := frozen_of_block hb0'.out 5
          have b6 := cell_of_block hb0'.out 6 rfl
          have x6 := frozen_of_block hb0'.out 6
          have b7 := cell_of_block hb0'.out 7 rfl
          have x7 := frozen_of_block hb0'.out 7
          have b8 := cell_of_block hb0'.out 8 rfl
          have x8 := frozen_of_block hb0'.out 8
          have b9 := cell_of_block hb0'.out 9 rfl
          have x9 := frozen_of_block hb0'.out 9
          have b10 := cell_of_block hb0'.out 10 rfl
          have x10 := frozen_of_block hb0'.out 10
          have b11 := cell_of_block hb0'.out 11 rfl
          have x11 := frozen_of_block hb0'.out 11
          have b12 := cell_of_block hb0'.out 12 rfl
          have x12 := frozen_of_block hb0'.out 12
          go_wp2_with fail
          clear b0 x0 b1 x1 b2 x2 b3 x3 b4 x4 b5 x5 b6 x6 b7 x7 b8 x8 b9 x9 b10 x10 b11 x11 b12 x12 
          have b0 := cell_of_block hset1.out 0 rfl
          have r0 := cell_of_block hrk.out 0 rfl
          have z0 := frozen_of_block hrk.out 0
          have b1 := cell_of_block hset1.out 1 rfl
          have r1 := cell_of_block hrk.out 1 rfl
          have z1 := frozen_of_block hrk.out 1
          have b2 := cell_of_block hset1.out 2 rfl
          have r2 := cell_of_block hrk.out 2 rfl
          have z2 := frozen_of_block hrk.out 2
          have b3 := cell_of_block hset1.out 3 rfl
          have r3 := cell_of_block hrk.out 3 rfl
          have z3 := frozen_of_block hrk.out 3
          have b4 := cell_of_block hset1.out 4 rfl
          have r4 := cell_of_block hrk.out 4 rfl
          have z4 := frozen_of_block hrk.out 4
          have b5 := cell_of_block hset1.out 5 rfl
          have r5 := cell_of_block hrk.out 5 rfl
          have z5 := frozen_of_block hrk.out 5
          have b6 := cell_of_block hset1.out 6 rfl
          have r6 := cell_of_block hrk.out 6 rfl
          have z6 := frozen_of_block hrk.out 6
          have b7 := cell_of_block hset1.out 7 rfl
          have r7 := cell_of_block hrk.out 7 rfl
          have z7 := frozen_of_block hrk.out 7
          have b8 := cell_of_block hset1.out 8 rfl
          have r8 := cell_of_block hrk.out 8 rfl
          have z8 := frozen_of_block hrk.out 8
          have b9 := cell_of_block hset1.out 9 rfl
          have r9 := cell_of_block hrk.out 9 rfl
          have z9 := frozen_of_block hrk.out 9
          have b10 := cell_of_block hset1.out 10 rfl
          have r10 := cell_of_block hrk.out 10 rfl
          have z10 := frozen_of_block hrk.out 10
          have b11 := cell_of_block hset1.out 11 rfl
          have r11 := cell_of_block hrk.out 11 rfl
          have z11 := frozen_of_block hrk.out 11
          have b12 := cell_of_block hset1.out 12 rfl
          have r12 := cell_of_block hrk.out 12 rfl
          have z12 := frozen_of_block hrk.out 12
          go_region
          all_goals
            go_wp2_with fail
            have hwf := hwf.out
            unfold set13 at hwf
            rw [hwf]
            replace hset : Hid (wf.drew.heap[w.heap.size]? = _) := hset
            have d0 := cell_of_block hset.out 0 (v := .int .u8 0) rfl
            have d1 := cell_of_block hset.out 1 (v := .int .u8 0) rfl
            have d2 := cell_of_block hset.out 2 (v := .int .u8 0) rfl
            have d3 := cell_of_block hset.out 3 (v := .int .u8 0) rfl
            have d4 := cell_of_block hset.out 4 (v := .int .i8 0) rfl
            have d5 := cell_of_block hset.out 5 (v := .int .i8 0) rfl
            have d6 := cell_of_block hset.out 6 (v := .int .u32 0) rfl
            have d7 := cell_of_block hset.out 7 (v := .int .u32 0) rfl
            have d8 := cell_of_block hset.out 8 (v := .int .u32 0) rfl
            have d9 := cell_of_block hset.out 9 (v := .int .u64 0) rfl
            have d10 := cell_of_block hset.out 10 (v := .int .u64 0) rfl
            have d11 := cell_of_block hset.out 11 (v := .int .u64 0) rfl
            have d12 := cell_of_block hset.out 12 (v := .int .u64 0) rfl
            exact bodyPost_ret (v := .tuple #[zeroPktV, .int .i64 (5 + (k : Int))]) (by simp [results, Tryz.results145, go_sem, d0, d1, d2, d3, d4, d5, d6, d7, d8, d9, d10, d11, d12]) rfl ⟨by rw [hout.out, if_neg hk3], hmf.out.drew⟩
    · obtain rfl : k = 7 := by omega
      have hout := hide (lookOut_none (full := .agg #[.int .u8 y0, .int .u8 y1, .int .u8 y2, .int .u8 y3, .int .i8 y4, .int .i8 y5, .int .u32 y6, .int .u32 y7, .int .u32 y8, .int .u64 y9, .int .u64 y10, .int .u64 y11, .int .u64 y12]) hbk)
      clear h0 h1 h2 h3 h4 h5 h6 hG htb ht1 hbx hr0 hm0 hmr
      have hset := hide (set13_heap (w := wr) hr1.out (.int .u8 y0) (.int .u8 y1) (.int .u8 y2) (.int .u8 y3) (.int .i8 y4) (.int .i8 y5) (.int .u32 y6) (.int .u32 y7) (.int .u32 y8) (.int .u64 y9) (.int .u64 y10) (.int .u64 y11) (.int .u64 y12))
      have hmf := hide (set13_mod (w := wr) (g := w.heap.size) hm1.out (Nat.le_refl _) (.int .u8 y0) (.int .u8 y1) (.int .u8 y2) (.int .u8 y3) (.int .i8 y4) (.int .i8 y5) (.int .u32 y6) (.int .u32 y7) (.int .u32 y8) (.int .u64 y9) (.int .u64 y10) (.int .u64 y11) (.int .u64 y12))
      obtain ⟨wf, hwf⟩ : ∃ wf, set13 wr w.heap.size (.int .u8 y0) (.int .u8 y1) (.int .u8 y2) (.int .u8 y3) (.int .i8 y4) (.int .i8 y5) (.int .u32 y6) (.int .u32 y7) (.int .u32 y8) (.int .u64 y9) (.int .u64 y10) (.int .u64 y11) (.int .u64 y12) = wf := ⟨_, rfl⟩
      rw [hwf] at hset hmf
      replace hwf := hide hwf
      have b0 := cell_of_block hb1.out 0 rfl
      have r0 := cell_of_block hr1.out 0 rfl
      have z0 := frozen_of_block hr1.out 0
      have b1 := cell_of_block hb1.out 1 rfl
      have r1 := cell_of_block hr1.out 1 rfl
      have z1 := frozen_of_block hr1.out 1
      have b2 := cell_of_block hb1.out 2 rfl
      have r2 := cell_of_block hr1.out 2 rfl
      have z2 := frozen_of_block hr1.out 2
      have b3 := cell_of_block hb1.out 3 rfl
      have r3 := cell_of_block hr1.out 3 rfl
      have z3 := frozen_of_block hr1.out 3
      have b4 := cell_of_block hb1.out 4 rfl
      have r4 := cell_of_block hr1.out 4 rfl
      have z4 := frozen_of_block hr1.out 4
      have b5 := cell_of_block hb1.out 5 rfl
      have r5 := cell_of_block hr1.out 5 rfl
      have z5 := frozen_of_block hr1.out 5
      have b6 := cell_of_block hb1.out 6 rfl
      have r6 := cell_of_block hr1.out 6 rfl
      have z6 := frozen_of_block hr1.out 6
      have b7 := cell_of_block hb1.out 7 rfl
      have r7 := cell_of_block hr1.out 7 rfl
      have z7 := frozen_of_block hr1.out 7
      have b8 := cell_of_block hb1.out 8 rfl
      have r8 := cell_of_block hr1.out 8 rfl
      have z8 := frozen_of_block hr1.out 8
      have b9 := cell_of_block hb1.out 9 rfl
      have r9 := cell_of_block hr1.out 9 rfl
      have z9 := frozen_of_block hr1.out 9
      have b10 := cell_of_block hb1.out 10 rfl
      have r10 := cell_of_block hr1.out 10 rfl
      have z10 := frozen_of_block hr1.out 10
      have b11 := cell_of_block hb1.out 11 rfl
      have r11 := cell_of_block hr1.out 11 rfl
      have z11 := frozen_of_block hr1.out 11
      have b12 := cell_of_block hb1.out 12 rfl
      have r12 := cell_of_block hr1.out 12 rfl
      have z12 := frozen_of_block hr1.out 12
      go_wp2_with fail
      have hwf := hwf.out
      unfold set13 at hwf
      rw [hwf]
      have d0 := cell_of_block hset.out 0 (v := .int .u8 y0) rfl
      have d1 := cell_of_block hset.out 1 (v := .int .u8 y1) rfl
      have d2 := cell_of_block hset.out 2 (v := .int .u8 y2) rfl
      have d3 := cell_of_block hset.out 3 (v := .int .u8 y3) rfl
      have d4 := cell_of_block hset.out 4 (v := .int .i8 y4) rfl
      have d5 := cell_of_block hset.out 5 (v := .int .i8 y5) rfl
      have d6 := cell_of_block hset.out 6 (v := .int .u32 y6) rfl
      have d7 := cell_of_block hset.out 7 (v := .int .u32 y7) rfl
      have d8 := cell_of_block hset.out 8 (v := .int .u32 y8) rfl
      have d9 := cell_of_block hset.out 9 (v := .int .u64 y9) rfl
      have d10 := cell_of_block hset.out 10 (v := .int .u64 y10) rfl
      have d11 := cell_of_block hset.out 11 (v := .int .u64 y11) rfl
      have d12 := cell_of_block hset.out 12 (v := .int .u64 y12) rfl
      exact bodyPost_ret (v := .tuple #[.agg #[.int .u8 y0, .int .u8 y1, .int .u8 y2, .int .u8 y3, .int .i8 y4, .int .i8 y5, .int .u32 y6, .int .u32 y7, .int .u32 y8, .int .u64 y9, .int .u64 y10, .int .u64 y11, .int .u64 y12], .int .i64 0]) (by simp [results, Tryz.results145, go_sem, d0, d1, d2, d3, d4, d5, d6, d7, d8, d9, d10, d11, d12]) rfl ⟨by rw [hout.out], hmf.out⟩
end Go.Proofs.YtpjfiplejhbdfaaGreatDoor


