/- sample.Better (contract): its region draws its order, and makes two boxes. Words as bytes, the greatest first: plain Lean. Packets of bytes, and whether an answer may be taken: plain Lean. Package lex: what it asks of a line's bytes. -/
import Derived.Test.YtpjfiplejhbdfaaGreatDoorPUad
import Derived.Test.YtpjfiplejhbdfaaGreatDoorPUaf
import Derived.Test.YtpjfiplejhbdfaaGreatDoorPUaa
import Derived.Lib.OthersKept
namespace Go.Proofs.YtpjfiplejhbdfaaGreatDoor
set_option linter.unusedSimpArgs false
open Go.RowKit
/-- What is listed; the slots; the world. -/
structure InvH (o d a s o' d' a' s' : Int) (W : World) (L : Nat → Bool) (z : Nat → Value) (w : World) : Prop where
  mod : Mod NoB W w
  f0 : L 0 = true → z 7 = sampleV o d a s
  f1 : L 1 = true → z 8 = .agg #[.int .i64 a, .int .i64 d]
  f2 : L 2 = true → z 9 = sampleV o' d' a' s'
  f3 : L 3 = true → z 10 = .agg #[.int .i64 a', .int .i64 d']
  f4 : L 4 = true → ∃ b c0 c1, z 5 = at0 b ∧ W.heap.size ≤ b ∧ w.heap[b]? = some (.cells #[c0, c1] 388 (0, 0)) ∧ (L 6 = true → c0 = .int .i64 a ∧ c1 = .int .i64 d)
  f5 : L 5 = true → ∃ b c0 c1, z 6 = at0 b ∧ W.heap.size ≤ b ∧ w.heap[b]? = some (.cells #[c0, c1] 388 (0, 0)) ∧ (L 7 = true → c0 = .int .i64 a' ∧ c1 = .int .i64 d')
  f6 : L 6 = true → L 4 = true
  f7 : L 7 = true → L 5 = true
  ne : L 4 = true → L 5 = true → z 5 ≠ z 6
def frameH (v0 v1 v2 v3 : Value) (z : Nat → Value) : Act :=
  { tmps := #[v0, v1, v2, v3, .bool false, z 5, z 6, z 7, z 8, z 9, z 10, undef, undef, undef, undef, undef, undef, undef, undef, undef, undef, undef, undef, undef, undef, undef], defers := [] }
def IH (v0 v1 v2 v3 : Value) (o d a s o' d' a' s' : Int) (W : World) (listed : Array Bool) (x : Act) (w : World) : Prop :=
  ∃ z, x = frameH v0 v1 v2 v3 z ∧ InvH o d a s o' d' a' s' W (LOf listed) z w
theorem InvH.pure {o d a s o' d' a' s' : Int} {W w w' : World} {L : Nat → Bool} {z : Nat → Value} (h : InvH o d a s o' d' a' s' W L z w) (hm : Mod NoB w w') (i k : Nat) (v : Value) (hi : i < 4) (hk : k = i + 7)
    (hv : v = if i = 0 then sampleV o d a s else if i = 1 then .agg #[.int .i64 a, .int .i64 d] else if i = 2 then sampleV o' d' a' s' else .agg #[.int .i64 a', .int .i64 d']) :
    InvH o d a s o' d' a' s' W (upd L i true) (upd z k v) w' := by
  subst hk
  have e5 : upd z (i + 7) v 5 = z 5 := upd_ne _ _ (by omega)
  have e6 : upd z (i + 7) v 6 = z 6 := upd_ne _ _ (by omega)
  have l4 : upd L i true 4 = L 4 := upd_ne _ _ (by omega)
  have l5 : upd L i true 5 = L 5 := upd_ne _ _ (by omega)
  have l6 : upd L i true 6 = L 6 := upd_ne _ _ (by omega)
  have l7 : upd L i true 7 = L 7 := upd_ne _ _ (by omega)
  refine ⟨h.mod.trans hm, fun hL => ?_, fun hL => ?_, fun hL => ?_, fun hL => ?_, fun hL => ?_, fun hL => ?_, ?_, ?_, ?_⟩
  · by_cases e : i = 0
    · subst e; rw [upd_same, hv]; rfl
    · rw [upd_ne _ _ (by omega)] at hL ⊢; exact h.f0 hL
  · by_cases e : i = 1
    · subst e; rw [upd_same, hv]; rfl
    · rw [upd_ne _ _ (by omega)] at hL ⊢; exact h.f1 hL
  · by_cases e : i = 2
    · subst e; rw [upd_same, hv]; rfl
    · rw [upd_ne _ _ (by omega)] at hL ⊢; exact h.f2 hL
  · by_cases e : i = 3
    · subst e; rw [upd_same, hv]; rfl
    · rw [upd_ne _ _ (by omega)] at hL ⊢; exact h.f3 hL
  · rw [l4] at hL; rw [e5, l6]
    obtain ⟨b, c0, c1, g1, g2, g3, g4⟩ := h.f4 hL
    exact ⟨b, c0, c1, g1, g2, hm.heap g3 id, g4⟩
  · rw [l5] at hL; rw [e6, l7]
    obtain ⟨b, c0, c1, g1, g2, g3, g4⟩ := h.f5 hL
    exact ⟨b, c0, c1, g1, g2, hm.heap g3 id, g4⟩
  · rw [l4, l6]; exact h.f6
  · rw [l5, l7]; exact h.f7
  · rw [l4, l5, e5, e6]; exact h.ne
theorem InvH.box4 {o d a s o' d' a' s' : Int} {W w : World} {L : Nat → Bool} {z : Nat → Value} (h : InvH o d a s o' d' a' s' W L z w) (h0 : L 4 = false) (c0 c1 : Value) :
    InvH o d a s o' d' a' s' W (upd L 4 true) (upd z 5 (at0 w.heap.size)) (w.alloc (.cells #[c0, c1] 388)) := by
  have h6 : L 6 = false := by
    cases e : L 6 with
    | false => rfl
    | true => rw [h.f6 e] at h0; cases h0
  have hm := (Mod.refl NoB w).alloc (.cells #[c0, c1] 388)
  have E : ∀ q, q ≠ 4 → upd L 4 true q = L q := fun q hq => upd_ne _ _ hq
  have Z : ∀ q, q ≠ 5 → upd z 5 (at0 w.heap.size) q = z q := fun q hq => upd_ne _ _ hq
  refine ⟨h.mod.alloc _, ?_, ?_, ?_, ?_, fun _ => ?_, fun hL => ?_, fun _ => upd_same _ _ _, ?_, fun _ hL => ?_⟩
  · rw [E 0 (by decide), Z 7 (by decide)]; exact h.f0
  · rw [E 1 (by decide), Z 8 (by decide)]; exact h.f1
  · rw [E 2 (by decide), Z 9 (by decide)]; exact h.f2
  · rw [E 3 (by decide), Z 10 (by decide)]; exact h.f3
  · exact ⟨w.heap.size, c0, c1, upd_same _ _ _, h.mod.size, heap_alloc_new _ _, fun hL => by rw [E 6 (by decide), h6] at hL; cases hL⟩
  · rw [E 5 (by decide)] at hL
    obtain ⟨b, c2, c3, g1, g2, g3, g4⟩ := h.f5 hL
    exact ⟨b, c2, c3, by rw [Z 6 (by decide)]; exact g1, g2, hm.heap g3 id, by rw [E 7 (by decide)]; exact g4⟩
  · rw [E 7 (by decide), E 5 (by decide)]; exact h.f7
  · rw [E 5 (by decide)] at hL
    obtain ⟨b, c2, c3, g1, g2, g3, g4⟩ := h.f5 hL
    rw [upd_same, Z 6 (by decide), g1]
    intro e
    have := lt_of_block g3
    cases e
    omega
theorem InvH.box5 {o d a s o' d' a' s' : Int} {W w : World} {L : Nat → Bool} {z : Nat → Value} (h : InvH o d a s o' d' a' s' W L z w) (h0 : L 5 = false) (c0 c1 : Value) :
    InvH o d a s o' d' a' s' W (upd L 5 true) (upd z 6 (at0 w.heap.size)) (w.alloc (.cells #[c0, c1] 388)) := by
  have h6 : L 7 = false := by
    cases e : L 7 with
    | false => rfl
    | true => rw [h.f7 e] at h0; cases h0
  have hm := (Mod.refl NoB w).alloc (.cells #[c0, c1] 388)
  have E : ∀ q, q ≠ 5 → upd L 5 true q = L q := fun q hq => upd_ne _ _ hq
  have Z : ∀ q, q ≠ 6 → upd z 6 (at0 w.heap.size) q = z q := fun q hq => upd_ne _ _ hq
  refine ⟨h.mod.alloc _, ?_, ?_, ?_, ?_, fun hL => ?_, fun _ => ?_, ?_, fun _ => upd_same _ _ _, fun hL _ => ?_⟩
  · rw [E 0 (by decide), Z 7 (by decide)]; exact h.f0
  · rw [E 1 (by decide), Z 8 (by decide)]; exact h.f1
  · rw [E 2 (by decide), Z 9 (by decide)]; exact h.f2
  · rw [E 3 (by decide), Z 10 (by decide)]; exact h.f3
  · rw [E 4 (by decide)] at hL
    obtain ⟨b, c2, c3, g1, g2, g3, g4⟩ := h.f4 hL
    exact ⟨b, c2, c3, by rw [Z 5 (by decide)]; exact g1, g2, hm.heap g3 id, by rw [E 6 (by decide)]; exact g4⟩
  · exact ⟨w.heap.size, c0, c1, upd_same _ _ _, h.mod.size, heap_alloc_new _ _, fun hL => by rw [E 7 (by decide), h6] at hL; cases hL⟩
  · rw [E 6 (by decide), E 4 (by decide)]; exact h.f6
  · rw [E 4 (by decide)] at hL
    obtain ⟨b, c2, c3, g1, g2, g3, g4⟩ := h.f4 hL
    rw [upd_same, Z 5 (by decide), g1]
    intro e
    have := lt_of_block g3
    cases e
    omega
theorem InvH.put6 {o d a s o' d' a' s' : Int} {W w : World} {L : Nat → Bool} {z : Nat → Value} (h : InvH o d a s o' d' a' s' W L z w) (h4 : L 4 = true) {b : Nat} (hb : z 5 = at0 b) :
    InvH o d a s o' d' a' s' W (upd L 6 true) z ((w.setCell ⟨b, 0, none⟩ (.int .i64 a)).setCell ⟨b, 1, none⟩ (.int .i64 d)) := by
  obtain ⟨b', c0, c1, g1, g2, g3, g4⟩ := h.f4 h4
  rw [hb] at g1
  cases g1
  have E : ∀ q, q ≠ 6 → upd L 6 true q = L q := fun q hq => upd_ne _ _ hq
  refine ⟨(h.mod.setCell (Or.inr g2) _).setCell (Or.inr g2) _, ?_, ?_, ?_, ?_, fun _ => ?_, fun hL => ?_, fun _ => ?_, ?_, ?_⟩
  · rw [E 0 (by decide)]; exact h.f0
  · rw [E 1 (by decide)]; exact h.f1
  · rw [E 2 (by decide)]; exact h.f2
  · rw [E 3 (by decide)]; exact h.f3
  · exact ⟨b, .int .i64 a, .int .i64 d, hb, g2, heap_setCell_eq (heap_setCell_eq g3 _) _, fun _ => ⟨rfl, rfl⟩⟩
  · rw [E 5 (by decide)] at hL
    obtain ⟨b', c2, c3, g1', g2', g3', g4'⟩ := h.f5 hL
    have hne : b' ≠ b := fun e => h.ne h4 hL (by rw [hb, g1', e])
    exact ⟨b', c2, c3, g1', g2', (heap_setCell_ne hne _).trans ((heap_setCell_ne hne _).trans g3'), by rw [E 7 (by decide)]; exact g4'⟩
  · rw [E 4 (by decide)]; exact h4
  · rw [E 7 (by decide), E 5 (by decide)]; exact h.f7
  · rw [E 4 (by decide), E 5 (by decide)]; exact h.ne
theorem InvH.put7 {o d a s o' d' a' s' : Int} {W w : World} {L : Nat → Bool} {z : Nat → Value} (h : InvH o d a s o' d' a' s' W L z w) (h5 : L 5 = true) {b : Nat} (hb : z 6 = at0 b) :
    InvH o d a s o' d' a' s' W (upd L 7 true) z ((w.setCell ⟨b, 0, none⟩ (.int .i64 a')).setCell ⟨b, 1, none⟩ (.int .i64 d')) := by
  obtain ⟨b', c0, c1, g1, g2, g3, g4⟩ := h.f5 h5
  rw [hb] at g1
  cases g1
  have E : ∀ q, q ≠ 7 → upd L 7 true q = L q := fun q hq => upd_ne _ _ hq
  refine ⟨(h.mod.setCell (Or.inr g2) _).setCell (Or.inr g2) _, ?_, ?_, ?_, ?_, fun hL => ?_, fun _ => ?_, ?_, fun _ => ?_, ?_⟩
  · rw [E 0 (by decide)]; exact h.f0
  · rw [E 1 (by decide)]; exact h.f1
  · rw [E 2 (by decide)]; exact h.f2
  · rw [E 3 (by decide)]; exact h.f3
  · rw [E 4 (by decide)] at hL
    obtain ⟨b', c2, c3, g1', g2', g3', g4'⟩ := h.f4 hL
    have hne : b' ≠ b := fun e => h.ne hL h5 (by rw [hb, g1', e])
    exact ⟨b', c2, c3, g1', g2', (heap_setCell_ne hne _).trans ((heap_setCell_ne hne _).trans g3'), by rw [E 6 (by decide)]; exact g4'⟩
  · exact ⟨b, .int .i64 a', .int .i64 d', hb, g2, heap_setCell_eq (heap_setCell_eq g3 _) _, fun _ => ⟨rfl, rfl⟩⟩
  · rw [E 6 (by decide), E 4 (by decide)]; exact h.f6
  · rw [E 5 (by decide)]; exact h5
  · rw [E 4 (by decide), E 5 (by decide)]; exact h.ne
set_option maxRecDepth 100000 in
theorem better_any (o d a s o' d' a' s' : Int) (w : World) :
    Calls Tryz.prog 211 #[sampleV o d a s, sampleV o' d' a' s'] w fun e w' => e = .returned (.bool (if d ≠ d' then decide (d < d') else decide (a' < a))) ∧ Mod NoB w w' := by
  have c1 := hide (hold_any o d a s)
  have c2 := hide (hold_any o' d' a' s')
  have c3 := hide (after_any a a')
  obtain ⟨v, hv⟩ : ∃ v, (if d ≠ d' then decide (d < d') else decide (a' < a)) = v := ⟨_, rfl⟩
  rw [hv]
  replace hv := hide hv
  obtain ⟨W0, hW0⟩ : ∃ W0, (w.alloc (.cells #[.int .i64 o, .int .i64 d, .int .i64 a, .int .i64 s] 185)).alloc (.cells #[.int .i64 o', .int .i64 d', .int .i64 a', .int .i64 s'] 185) = W0 := ⟨_, rfl⟩
  have hmw : Hid (Mod NoB w W0) := hide (hW0 ▸ ((Mod.refl NoB w).alloc _).alloc _)
  have hb2 : W0.heap[w.heap.size]? = some (.cells #[.int .i64 o, .int .i64 d, .int .i64 a, .int .i64 s] 185 (0, 0)) := by
    rw [← hW0, heap_alloc_old (by simp)]; exact heap_alloc_new _ _
  have hb3 : W0.heap[w.heap.size + 1]? = some (.cells #[.int .i64 o', .int .i64 d', .int .i64 a', .int .i64 s'] 185 (0, 0)) := by
    have := heap_alloc_new (w.alloc (.cells #[.int .i64 o, .int .i64 d, .int .i64 a, .int .i64 s] 185)) (.cells #[.int .i64 o', .int .i64 d', .int .i64 a', .int .i64 s'] 185)
    rw [World.size_alloc] at this
    rw [← hW0]; exact this
  replace hb2 := hide hb2
  replace hb3 := hide hb3
  go_enter Tryz.func211, Tryz.ntmps211
  go_wp2_with fail
  try rw [hW0]
  clear hW0
  refine wp_region_inv (by kernel_rfl) (by kernel_rfl) (IH (sampleV o d a s) (sampleV o' d' a' s') (at0 w.heap.size) (at0 (w.heap.size + 1)) o d a s o' d' a' s' W0) ?_ ?_ ?_
  · have hL0 : ∀ q, LOf (Array.replicate 8 false) q = false := fun q => by
      unfold LOf
      by_cases hq : q < 8 <;> simp [hq]
    have hN : ∀ q, ¬ (LOf (Array.replicate 8 false) q = true) := fun q h => by rw [hL0 q] at h; cases h
    exact ⟨fun _ => undef, rfl, (Mod.refl _ _).drew, fun h => (hN _ h).elim, fun h => (hN _ h).elim, fun h => (hN _ h).elim, fun h => (hN _ h).elim, fun h => (hN _ h).elim, fun h => (hN _ h).elim, fun h => (hN _ h).elim, fun h => (hN _ h).elim, fun h => (hN _ h).elim⟩
  · intro listed x w1 i op hsz hI ho hl hpre
    obtain ⟨z, rfl, hI⟩ := hI
    have hilt : i < listed.size := by rw [hsz]; exact (Array.getElem?_eq_some_iff.1 ho).1
    have hset := LOf_set hilt
    have k20 := cell_of_block (hI.mod.heap hb2.out id) 0 rfl
    have k21 := cell_of_block (hI.mod.heap hb2.out id) 1 rfl
    have k22 := cell_of_block (hI.mod.heap hb2.out id) 2 rfl
    have k23 := cell_of_block (hI.mod.heap hb2.out id) 3 rfl
    have k30 := cell_of_block (hI.mod.heap hb3.out id) 0 rfl
    have k31 := cell_of_block (hI.mod.heap hb3.out id) 1 rfl
    have k32 := cell_of_block (hI.mod.heap hb3.out id) 2 rfl
    have k33 := cell_of_block (hI.mod.heap hb3.out id) 3 rfl
    match i, ho with
    | 0, ho =>
      refine wpOp_step ho (fun K' hK => ?_)
      simp only [List.getElem?_toArray, List.getElem?_cons_zero, List.getElem?_cons_succ, Option.some.injEq] at ho
      subst ho
      unfold frameH
      go_simp
      refine hK _ _ ⟨upd z 7 (sampleV o d a s), by simp [frameH, upd], ?_⟩
      rw [hset]
      exact hI.pure (Mod.refl _ _) 0 7 _ (by decide) rfl rfl
    | 1, ho =>
      refine wpOp_step ho (fun K' hK => ?_)
      simp only [List.getElem?_toArray, List.getElem?_cons_zero, List.getElem?_cons_succ, Option.some.injEq] at ho
      subst ho
      have q := hI.f0 (pre_of hpre 0 (by rfl))
      unfold frameH
      go_simp
      refine (c1.out _).mono ?_
      rintro e w2 ⟨rfl, hm⟩
      refine hK _ _ ⟨upd z 8 (.agg #[.int .i64 a, .int .i64 d]), by simp [frameH, upd, q], ?_⟩
      rw [hset]
      exact hI.pure hm 1 8 _ (by decide) rfl rfl
    | 2, ho =>
      refine wpOp_step ho (fun K' hK => ?_)
      simp only [List.getElem?_toArray, List.getElem?_cons_zero, List.getElem?_cons_succ, Option.some.injEq] at ho
      subst ho
      unfold frameH
      go_simp
      refine hK _ _ ⟨upd z 9 (sampleV o' d' a' s'), by simp [frameH, upd], ?_⟩
      rw [hset]
      exact hI.pure (Mod.refl _ _) 2 9 _ (by decide) rfl rfl
    | 3, ho =>
      refine wpOp_step ho (fun K' hK => ?_)
      simp only [List.getElem?_toArray, List.getElem?_cons_zero, List.getElem?_cons_succ, Option.some.injEq] at ho
      subst ho
      have q := hI.f2 (pre_of hpre 2 (by rfl))
      unfold frameH
      go_simp
      refine (c2.out _).mono ?_
      rintro e w2 ⟨rfl, hm⟩
      refine hK _ _ ⟨upd z 10 (.agg #[.int .i64 a', .int .i64 d']), by simp [frameH, upd, q], ?_⟩
      rw [hset]
      exact hI.pure hm 3 10 _ (by decide) rfl rfl
    | 4, ho =>
      refine wpOp_step ho (fun K' hK => ?_)
      simp only [List.getElem?_toArray, List.getElem?_cons_zero, List.getElem?_cons_succ, Option.some.injEq] at ho
      subst ho
      unfold frameH
      go_simp
      refine hK _ _ ⟨upd z 5 (at0 w1.heap.size), by simp [frameH, upd], ?_⟩
      rw [hset]
      exact hI.box4 (lof_no hilt hl) _ _
    | 5, ho =>
      refine wpOp_step ho (fun K' hK => ?_)
      simp only [List.getElem?_toArray, List.getElem?_cons_zero, List.getElem?_cons_succ, Option.some.injEq] at ho
      subst ho
      unfold frameH
      go_simp
      refine hK _ _ ⟨upd z 6 (at0 w1.heap.size), by simp [frameH, upd], ?_⟩
      rw [hset]
      exact hI.box5 (lof_no hilt hl) _ _
    | 6, ho =>
      refine wpOp_step ho (fun K' hK => ?_)
      simp only [List.getElem?_toArray, List.getElem?_cons_zero, List.getElem?_cons_succ, Option.some.injEq] at ho
      subst ho
      have q := hI.f1 (pre_of hpre 1 (by rfl))
      have p4 := pre_of hpre 4 (by rfl)
      obtain ⟨b, y0, y1, g1, g2, g3, g4⟩ := hI.f4 p4
      have j0 := cell_of_block g3 0 rfl
      have j1 := cell_of_block g3 1 rfl
      have j2 := frozen_of_block g3 0
      have j3 := frozen_of_block g3 1
      replace g4 := hide g4
      replace g3 := hide g3
      unfold frameH
      go_simp
      refine hK _ _ ⟨z, by simp [frameH, upd, q, g1], ?_⟩
      rw [hset]
      exact hI.put6 p4 g1
    | 7, ho =>
      refine wpOp_step ho (fun K' hK => ?_)
      simp only [List.getElem?_toArray, List.getElem?_cons_zero, List.getElem?_cons_succ, Option.some.injEq] at ho
      subst ho
      have q := hI.f3 (pre_of hpre 3 (by rfl))
      have p5 := pre_of hpre 5 (by rfl)
      obtain ⟨b, y0, y1, g1, g2, g3, g4⟩ := hI.f5 p5
      have j0 := cell_of_block g3 0 rfl
      have j1 := cell_of_block g3 1 rfl
      have j2 := frozen_of_block g3 0
      have j3 := frozen_of_block g3 1
      replace g4 := hide g4
      replace g3 := hide g3
      unfold frameH
      go_simp
      refine hK _ _ ⟨z, by simp [frameH, upd, q, g1], ?_⟩
      rw [hset]
      exact hI.put7 p5 g1
  · intro listed x w1 hsz hall hI
    obtain ⟨z, rfl, hI⟩ := hI
    have hA : ∀ i, i < 8 → LOf listed i = true := fun i hi => by
      have := hall i hi
      unfold LOf
      have h12 : i < listed.size := by rw [hsz]; exact hi
      simpa [h12] using this
    obtain ⟨b, y0, y1, g1, g2, g3, g4⟩ := hI.f4 (hA 4 (by decide))
    obtain ⟨b', y0', y1', g1', g2', g3', g4'⟩ := hI.f5 (hA 5 (by decide))
    obtain ⟨rfl, rfl⟩ := g4 (hA 6 (by decide))
    obtain ⟨rfl, rfl⟩ := g4' (hA 7 (by decide))
    have j0 := cell_of_block g3 0 rfl
    have j1 := cell_of_block g3 1 rfl
    have j2 := cell_of_block g3' 0 rfl
    have j3 := cell_of_block g3' 1 rfl
    have hmf := hide (hmw.out.trans hI.mod)
    unfold frameH
    rw [g1, g1']
    clear hI hall hA g3 g3' g4 g4'
    by_cases hd : d = d'
    · have hv1 : v = decide (a' < a) := by rw [← hv.out, if_neg (by simpa using hd)]
      replace hv1 := hide hv1
      go_wp2_with fail
      refine (c3.out _).mono ?_
      rintro e w2 ⟨rfl, hm2⟩
      replace hmf := hide (hmf.out.trans hm2)
      clear hm2
      go_wp2_with fail
      go_ret
      exact ⟨bool_ret hv1.out.symm, hmf.out⟩
    · have hv1 : v = decide (d < d') := by rw [← hv.out, if_pos hd]
      replace hv1 := hide hv1
      go_wp2_with fail
      go_ret
      exact ⟨bool_ret hv1.out.symm, hmf.out⟩
end Go.Proofs.YtpjfiplejhbdfaaGreatDoor


namespace Go.Proofs.YtpjfiplejhbdfaaGreatDoor

def be : Nat → Nat → List Nat
  | 0, _ => []
  | n + 1, x => x / 256 ^ n % 256 :: be n x
def wordN (l : List Nat) (a : Nat) : Nat := l.foldl (fun a c => a * 256 + c) a
theorem be_len (n x : Nat) : (be n x).length = n := by induction n with
  | zero => rfl
  | succ n ih => simp [be, ih]
theorem be_lt (n x : Nat) : ∀ c ∈ be n x, c < 256 := by
  induction n with
  | zero => intro c hc; cases hc
  | succ n ih =>
    intro c hc
    rcases List.mem_cons.1 hc with rfl | hc
    · exact Nat.mod_lt _ (by decide)
    · exact ih c hc
theorem be_at (n x : Nat) : ∀ i, i < n → (be n x)[i]? = some (x / 256 ^ (n - 1 - i) % 256) := by
  induction n with
  | zero => intro i hi; omega
  | succ n ih =>
    intro i hi
    cases i with
    | zero => simp [be]
    | succ i =>
      rw [be, List.getElem?_cons_succ, ih i (by omega)]
      rw [show n + 1 - 1 - (i + 1) = n - 1 - i by omega]
end Go.Proofs.YtpjfiplejhbdfaaGreatDoor

namespace Go.Proofs.YtpjfiplejhbdfaaGreatDoor
open Go.RowKit

structure PktS where
  leap : Nat
  version : Nat
  mode : Nat
  stratum : Nat
  poll : Int
  prec : Int
  delay : Nat
  disp : Nat
  refs : Nat
  ref : Nat
  orig : Nat
  recv : Nat
  xmit : Nat
/-- The bytes of one that may be. -/
def PktS.bytes (p : PktS) : List Nat :=
  [p.leap * 64 + p.version * 8 + p.mode, p.stratum, (p.poll % 256).toNat, (p.prec % 256).toNat] ++ be 4 p.delay ++ be 4 p.disp ++ be 4 p.refs ++ be 8 p.ref ++ be 8 p.orig ++ be 8 p.recv ++ be 8 p.xmit
def i8of (c : Nat) : Int := if c < 128 then c else (c : Int) - 256
def wordAt (b : List Nat) (at' n : Nat) : Nat := wordN ((b.drop at').take n) 0
/-- packet.Get, of bytes enough. -/
def pktOf (b : List Nat) : PktS :=
  { leap := b.getD 0 0 / 64, version := b.getD 0 0 / 8 % 8, mode := b.getD 0 0 % 8, stratum := b.getD 1 0, poll := i8of (b.getD 2 0), prec := i8of (b.getD 3 0),
    delay := wordAt b 4 4, disp := wordAt b 8 4, refs := wordAt b 12 4, ref := wordAt b 16 8, orig := wordAt b 24 8, recv := wordAt b 32 8, xmit := wordAt b 40 8 }
def pkt0 : PktS := ⟨0, 0, 0, 0, 0, 0, 0, 0, 0, 0, 0, 0, 0⟩
/-- Which test says no first; 0: none. -/
def testR (p : PktS) (cookie : Nat) : Int :=
  if p.version ≠ 4 then 5 else if p.mode ≠ 4 then 6 else if cookie = 0 ∨ p.orig ≠ cookie then 7 else if p.stratum = 0 then 8
  else if p.leap = 3 then 9 else if 15 < p.stratum then 10 else if p.recv = 0 ∨ p.xmit = 0 then 11 else 0
/-- sane.Look: why not. -/
def lookR (b : List Nat) (cookie : Nat) : Int := if b.length < 48 then 1 else testR (pktOf b) cookie
/-- sane.Look: the packet. -/
def lookP (b : List Nat) (cookie : Nat) : PktS := if b.length < 48 then pkt0 else if testR (pktOf b) cookie = 0 ∨ testR (pktOf b) cookie = 8 then pktOf b else pkt0
def queryP (cookie : Nat) : PktS := { pkt0 with version := 4, mode := 3, xmit := cookie }
def goodP (cookie recv xmit : Nat) : PktS := { pkt0 with version := 4, mode := 4, stratum := 1, orig := cookie, recv := recv, xmit := xmit }
theorem wordN_lt : ∀ (l : List Nat) (a : Nat), (∀ c ∈ l, c < 256) → wordN l a < (a + 1) * 256 ^ l.length := by
  intro l
  induction l with
  | nil => intro a _; simp [wordN]
  | cons c l ih =>
    intro a h
    have h1 := ih (a * 256 + c) (fun x hx => h x (by simp [hx]))
    have h2 := h c (by simp)
    have h3 : wordN (c :: l) a = wordN l (a * 256 + c) := rfl
    rw [h3, List.length_cons, Nat.pow_succ]
    refine Nat.lt_of_lt_of_le h1 ?_
    rw [Nat.mul_comm (256 ^ l.length) 256, ← Nat.mul_assoc]
    exact Nat.mul_le_mul_right _ (by omega)
theorem wordAt_lt (b : List Nat) (at' n : Nat) (h : ∀ c ∈ b, c < 256) : wordAt b at' n < 256 ^ n := by
  unfold wordAt
  have h1 := wordN_lt ((b.drop at').take n) 0 (fun c hc => h c (List.mem_of_mem_drop (List.mem_of_mem_take hc)))
  have h2 : ((b.drop at').take n).length ≤ n := by simp; omega
  have h3 : 256 ^ ((b.drop at').take n).length ≤ 256 ^ n := Nat.pow_le_pow_right (by decide) h2
  omega
theorem look_range (b : List Nat) (c : Nat) : lookR b c = 0 ∨ lookR b c = 1 ∨ (5 ≤ lookR b c ∧ lookR b c ≤ 11) := by
  unfold lookR testR
  (repeat' split) <;> omega
end Go.Proofs.YtpjfiplejhbdfaaGreatDoor

namespace Go.Proofs.YtpjfiplejhbdfaaGreatDoor
open Go.RowKit

/-- A byte that may stand alone. -/
def okB (b : UInt8) : Bool := b == 9 || (decide (32 ≤ b.toNat) && decide (b.toNat ≤ 126))

theorem decode_high (s : ByteArray) (p : Nat) (h : p < s.size) (hb : ¬ (s[p]'h).toNat < 128) : 126 < (Utf8.decode s p).1 := by
  have hg : s.get! (p + 0) = s[p]'h := by
    simp [ByteArray.get!, h]
    rfl
  unfold Utf8.decode
  simp only [hg]
  rw [if_neg (by omega)]
  have hr : 126 < Utf8.runeError := by decide
  split
  · split
    · show 126 < _; omega
    · exact hr
  · split
    · split
      · rename_i h1; simp only [Bool.and_eq_true, decide_eq_true_eq] at h1; show 126 < _; omega
      · exact hr
    · split
      · split
        · rename_i h1; simp only [Bool.and_eq_true, decide_eq_true_eq] at h1; show 126 < _; omega
        · exact hr
      · exact hr

theorem Mod.iterAt {S : Nat → Prop} {a w : World} (h : Mod S a w) {k : Nat} (hk : S k ∨ a.heap.size ≤ k) (s : ByteArray) (p : Nat) : Mod S a (w.iterAt k s p) :=
  ⟨h.os, h.tape, h.output, by rw [Lib.iterAt_size]; exact h.size, fun j hj hn => by
    rw [Lib.iterAt_other w k j s p (fun e => by subst e; rcases hk with hk | hk; exact hn hk; omega)]
    exact h.block j hj hn⟩

theorem okB_eq (b : UInt8) : okB b = (decide (b.toNat = 9) || (decide (32 ≤ b.toNat) && decide (b.toNat ≤ 126))) := by
  unfold okB
  congr 1
  by_cases h : b = 9
  · subst h; rfl
  · have h2 : ¬ b.toNat = 9 := fun e => h (UInt8.toNat_inj.mp e)
    simp [h, h2]
theorem all_false {l : List UInt8} {k : Nat} {b : UInt8} {q : UInt8 → Bool} (h : l[k]? = some b) (hb : q b = false) : l.all q = false := by
  rw [List.all_eq_false]
  exact ⟨b, List.mem_of_getElem? h, by simp [hb]⟩
theorem iterPos_of {w : World} {k : Nat} {s : ByteArray} {p : Nat} (h : w.heap[k]? = some (.stringIter s p)) : w.iterPos k = p := by simp [World.iterPos, h]

set_option maxHeartbeats 4000000 in
theorem plain_any (s : ByteArray) (w : World) :
    Calls Tryz.prog 104 #[.string s] w fun e w' => e = .returned (.bool (s.data.toList.all okB)) ∧ Mod NoB w w' := by
  obtain ⟨vb, hvb⟩ : ∃ v, s.data.toList.all okB = v := ⟨_, rfl⟩
  rw [hvb]
  replace hvb := hide hvb
  go_enter Tryz.func104, Tryz.ntmps104
  go_wp2_with fail
  go_loopw [] (fun wr => ∃ k : Nat, k ≤ s.size ∧ (s.data.toList.take k).all okB = true ∧ wr.heap[w.heap.size]? = some (.stringIter s k) ∧ Mod NoB w wr) (fun wr => s.size - wr.iterPos w.heap.size)
  case atStart =>
    refine ⟨0, by omega, by simp, ?_, (Mod.refl _ _).alloc _⟩
    exact World.iter_heap w s 0
  case round =>
    obtain ⟨k, hk, hall, hit, hm⟩ := hrel
    replace hall := hide hall
    have hpos : wr.iterPos w.heap.size = k := by simp [World.iterPos, hit]
    by_cases hp : k < s.size
    · obtain ⟨b, hb⟩ : ∃ b, s[k]'hp = b := ⟨_, rfl⟩
      have hl : s.data.toList[k]? = some b := by
        rw [← hb]
        simp [hp]
        rfl
      have hm2 : Mod NoB w (wr.iterAt w.heap.size s (k + (Utf8.decode s k).2)) := hm.iterAt (Or.inr (Nat.le_refl _)) _ _
      by_cases ha : b.toNat < 128
      · rw [decode_ascii s k hp (by rw [hb]; exact ha), hb] at hm2
        have hnx : ∀ ty, (Instr.next (.pointer (some ⟨w.heap.size, 0, none⟩)) true ty).run Tryz.prog wr = .ok (.tuple #[.bool true, .int .i64 k, .int .i32 (b.toNat : Nat)]) (wr.iterAt w.heap.size s (k + 1)) := fun ty => by
          have := Lib.run_next_ascii_at (P := Tryz.prog) wr w.heap.size s k ty hit hp (by rw [hb]; exact ha)
          rw [hb] at this
          exact this
        have hit2 := Lib.iterAt_heap wr w.heap.size s k (k + 1) hit
        have hpos2 := iterPos_of hit2
        have htk : (s.data.toList.take (k + 1)).all okB = okB b := by
          rw [List.take_add_one, hl]
          simp [List.all_append, hall.out]
        have hok : okB b = (decide (b.toNat = 9) || (decide (32 ≤ b.toNat) && decide (b.toNat ≤ 126))) := okB_eq b
        have hno : okB b = false → vb = false := fun h => by rw [← hvb.out]; exact all_false hl h
        generalize okB b = ob at htk hok hno
        generalize b.toNat = m at hnx ha hok
        replace htk := hide htk
        replace hno := hide hno
        replace hm2 := hide hm2
        replace hit2 := hide hit2
        replace hpos2 := hide hpos2
        by_cases h9 : m = 9
        · subst h9
          replace hok : Hid (ob = true) := hide (by rw [hok]; rfl)
          go_wp2
          go_roundw
          case rel => exact ⟨k + 1, by omega, by rw [htk.out, hok.out], hit2.out, hm2.out⟩
          case measure => rw [hpos2.out, hpos]; omega
        · have hm9 : ((m : Int) != 9) = true := by simp; omega
          by_cases h32 : m < 32
          · replace hok : Hid (ob = false) := hide (by rw [hok]; simp; omega)
            go_wp2
            go_ret
            exact ⟨bool_ret (hno.out hok.out).symm, hm2.out⟩
          · by_cases h126 : 126 < m
            · replace hok : Hid (ob = false) := hide (by rw [hok]; simp; omega)
              go_wp2
              all_goals first
                | (exfalso; omega)
                | (go_ret; exact ⟨bool_ret (hno.out hok.out).symm, hm2.out⟩)
            · replace hok : Hid (ob = true) := hide (by rw [hok]; simp; omega)
              go_wp2
              go_roundw
              case rel => exact ⟨k + 1, by omega, by rw [htk.out, hok.out], hit2.out, hm2.out⟩
              case measure => rw [hpos2.out, hpos]; omega
      · have hnx : ∀ ty, (Instr.next (.pointer (some ⟨w.heap.size, 0, none⟩)) true ty).run Tryz.prog wr = _ := fun ty => Lib.run_next_any_at wr w.heap.size s k ty hit hp
        have hd := decode_high s k hp (by rw [hb]; exact ha)
        have hno : vb = false := by rw [← hvb.out]; exact all_false hl (by rw [okB_eq]; simp; omega)
        generalize (Utf8.decode s k).1 = r at hnx hd
        replace hno := hide hno
        replace hm2 := hide hm2
        clear hb hl ha
        have h9 : ¬ r = 9 := by omega
        have hm9 : ((r : Int) != 9) = true := by simp; omega
        have h32 : ¬ r < 32 := by omega
        go_wp2
        all_goals first
          | (exfalso; omega)
          | (go_ret; exact ⟨bool_ret hno.out.symm, hm2.out⟩)
    · have hnx : ∀ ty, (Instr.next (.pointer (some ⟨w.heap.size, 0, none⟩)) true ty).run Tryz.prog wr = _ := fun ty => Lib.run_next_end_at wr w.heap.size s k ty hit hp
      obtain rfl : k = s.size := by omega
      have hall2 : vb = true := by
        rw [← hvb.out]
        have h := hall.out
        rwa [List.take_of_length_le (by simp)] at h
      replace hall2 := hide hall2
      replace hm := hide hm
      go_wp2
      go_ret
      exact ⟨bool_ret hall2.out.symm, hm.out⟩
end Go.Proofs.YtpjfiplejhbdfaaGreatDoor

