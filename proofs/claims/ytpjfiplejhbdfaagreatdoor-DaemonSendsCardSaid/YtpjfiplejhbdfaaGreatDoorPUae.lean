/- conf.words: each step keeps the invariant. Maps with texts as keys, entry by entry: a key put in, a look. -/
import Derived.Test.YtpjfiplejhbdfaaGreatDoorPUad
import Derived.MapKept
namespace Go.Proofs.YtpjfiplejhbdfaaGreatDoor
open Go.RowKit

theorem bounds5 (k : Nat) (h : k < 5) : k = 0 ∨ k = 1 ∨ k = 2 ∨ k = 3 ∨ k = 4 := by omega

theorem T0 : ∀ p ∈ fixN, p.1 ≠ 0 ∧ p.2 ≠ 6 := by decide
theorem T1 : ∀ k, k < 5 → 0 < k → aOp k ≠ 0 ∧ aSlot k ≠ 6 := by decide
theorem T2 : ∀ k, k < 5 → wOp k ≠ 0 ∧ wSlot k ≠ 6 ∧ iOp k ≠ 0 := by decide
/-- The map is made. -/
theorem InvW.make {bc B0 : Nat} {W0 : World} {L : Nat → Bool} {s : Nat → Value} {w : World} (h : InvW bc B0 W0 L s w) (hL : L 0 = false) :
    InvW bc B0 W0 (upd L 0 true) (upd s 6 (.map (some w.heap.size))) (w.alloc (.map #[] 0)) := by
  have hm : Mod NoB w (w.alloc (.map #[] 0)) := (Mod.refl _ _).alloc _
  have h' := h.world hm
  refine ⟨h'.mod, ?_, ?_, ?_, ?_, ?_, ?_, ?_, ?_⟩
  · intro p hp hLp
    have h0 := T0 p hp
    rw [upd_ne _ _ h0.1] at hLp
    rw [upd_ne _ _ h0.2]
    exact h.fx p hp hLp
  · intro k k0 k5 hk
    have hh := T1 k k5 k0
    rw [upd_ne _ _ hh.1] at hk
    rw [upd_ne _ _ hh.2]
    exact h'.arr k k0 k5 hk
  · intro k k5 hk
    obtain ⟨g1, g2, _⟩ := T2 k k5
    have hh : wOp k ≠ 0 ∧ wSlot k ≠ 6 := ⟨g1, g2⟩
    rw [upd_ne _ _ hh.1] at hk
    rw [upd_ne _ _ hh.2]
    exact h'.word k k5 hk
  · intro j k j5 k5 hjk hj hk
    obtain ⟨g1, g2, _⟩ := T2 k k5
    have hh : wOp k ≠ 0 ∧ wSlot k ≠ 6 := ⟨g1, g2⟩
    obtain ⟨f1, f2, _⟩ := T2 j j5
    have gg : wOp j ≠ 0 ∧ wSlot j ≠ 6 := ⟨f1, f2⟩
    rw [upd_ne _ _ gg.1] at hj
    rw [upd_ne _ _ hh.1] at hk
    rw [upd_ne _ _ gg.2, upd_ne _ _ hh.2]
    exact h.apart j k j5 k5 hjk hj hk
  · intro _
    refine ⟨w.heap.size, [], upd_same _ _ _, h.mod.size, heap_alloc_new _ _, List.nodup_nil, ?_, by simp⟩
    intro k
    constructor
    · intro hk; cases hk
    · rintro ⟨k5, hk⟩
      have hh := (T2 k k5).2.2
      rw [upd_ne _ _ hh, h.nomap hL k k5] at hk
      cases hk
  · intro h0; rw [upd_same] at h0; cases h0
  · intro h1
    rw [upd_ne _ _ (by decide)] at h1
    have := (h.m36 h1).2
    rw [hL] at this; cases this
  · intro h1
    rw [upd_ne _ _ (by decide)] at h1
    obtain ⟨a, b⟩ := h.m37 h1
    have := (h.m36 b).2
    rw [hL] at this; cases this

/-- A word's row is laid. -/
theorem InvW.row {bc B0 : Nat} {W0 : World} {L : Nat → Bool} {s : Nat → Value} {w : World} (h : InvW bc B0 W0 L s w) (k : Nat) (k0 : 0 < k) (k5 : k < 5) (hL : L (aOp k) = false) :
    InvW bc B0 W0 (upd L (aOp k) true) (upd s (aSlot k) (.slice (some ⟨w.heap.size, 0, none⟩) (fieldsW k).length (fieldsW k).length)) (w.alloc (.cells ((fieldsW k).map (at0c bc)).toArray 230)) := by
  have hm : Mod NoB w (w.alloc (.cells ((fieldsW k).map (at0c bc)).toArray 230)) := (Mod.refl _ _).alloc _
  have h' := h.world hm
  have hst : ∀ k, 0 < k → k < 5 → (∀ p ∈ fixN, p.1 ≠ aOp k ∧ p.2 ≠ aSlot k) ∧ (∀ j, j < 5 → wOp j ≠ aOp k ∧ wSlot j ≠ aSlot k ∧ iOp j ≠ aOp k) ∧ aSlot k ≠ 6 ∧ aOp k ≠ 0 ∧ aOp k ≠ 36 ∧ aSlot k ≠ 37 ∧ aOp k ≠ 37 ∧ aSlot k ≠ 2 ∧ (∀ j, j < 5 → 0 < j → j ≠ k → aOp j ≠ aOp k ∧ aSlot j ≠ aSlot k) := by
    intro k k0 k5
    rcases bounds5 k k5 with rfl | rfl | rfl | rfl | rfl
    · omega
    all_goals decide
  obtain ⟨s1, s2, s3, s4, s5, s6, s7, s8, s9⟩ := hst k k0 k5
  refine ⟨h'.mod, ?_, ?_, ?_, ?_, ?_, ?_, ?_, ?_⟩
  · intro p hp hLp
    rw [upd_ne _ _ (s1 p hp).1] at hLp
    rw [upd_ne _ _ (s1 p hp).2]
    exact h.fx p hp hLp
  · intro j j0 j5 hj
    by_cases hjk : j = k
    · subst hjk
      exact ⟨w.heap.size, upd_same _ _ _, heap_alloc_new _ _⟩
    · obtain ⟨g1, g2⟩ := s9 j j5 j0 hjk
      rw [upd_ne _ _ g1] at hj
      rw [upd_ne _ _ g2]
      exact h'.arr j j0 j5 hj
  · intro j j5 hj
    obtain ⟨g1, g2, g3⟩ := s2 j j5
    rw [upd_ne _ _ g1] at hj
    rw [upd_ne _ _ g2]
    exact h'.word j j5 hj
  · intro j i j5 i5 hji hj hi
    obtain ⟨g1, g2, g3⟩ := s2 j j5
    obtain ⟨f1, f2, f3⟩ := s2 i i5
    rw [upd_ne _ _ g1] at hj
    rw [upd_ne _ _ f1] at hi
    rw [upd_ne _ _ g2, upd_ne _ _ f2]
    exact h.apart j i j5 i5 hji hj hi
  · intro h0
    rw [upd_ne _ _ (Ne.symm s4)] at h0
    obtain ⟨bM, order, e1, e2, e3, e4, e5, e6⟩ := h'.map h0
    refine ⟨bM, order, by rw [upd_ne _ _ (Ne.symm s3)]; exact e1, e2, ?_, e4, ?_, ?_⟩
    · rw [e3]
      congr 3
      exact ents_congr fun j hj => by rw [upd_ne _ _ (s2 j ((e5 j).1 hj).1).2.1]
    · intro j
      rw [e5 j]
      constructor
      · rintro ⟨a, b⟩; exact ⟨a, by rw [upd_ne _ _ (s2 j a).2.2]; exact b⟩
      · rintro ⟨a, b⟩; rw [upd_ne _ _ (s2 j a).2.2] at b; exact ⟨a, b⟩
    · intro j hj
      rw [upd_ne _ _ (s2 j ((e5 j).1 hj).1).1]
      exact e6 j hj
  · intro h0 j j5
    rw [upd_ne _ _ (Ne.symm s4)] at h0
    rw [upd_ne _ _ (s2 j j5).2.2]
    exact h.nomap h0 j j5
  · intro h1
    rw [upd_ne _ _ (Ne.symm s5)] at h1
    rw [upd_ne _ _ (Ne.symm s6), upd_ne _ _ (Ne.symm s3), upd_ne _ _ (Ne.symm s4)]
    exact h.m36 h1
  · intro h1
    rw [upd_ne _ _ (Ne.symm s7)] at h1
    rw [upd_ne _ _ (Ne.symm s8), upd_ne _ _ (Ne.symm s6), upd_ne _ _ (Ne.symm s5)]
    exact h.m37 h1

/-- A word is laid. -/
theorem InvW.laid {bc B0 : Nat} {W0 : World} {L : Nat → Bool} {s : Nat → Value} {w w' : World} (h : InvW bc B0 W0 L s w) (k : Nat) (k5 : k < 5) (hL : L (wOp k) = false) (hLi : L (iOp k) = false) (hm : Mod NoB w w') (b : Nat) (hb : w.heap.size ≤ b) (hw : WordAt bc B0 k false w' b) :
    InvW bc B0 W0 (upd L (wOp k) true) (upd s (wSlot k) (at0c b 0)) w' := by
  have h' := h.world hm
  have hst : ∀ k, k < 5 → (∀ p ∈ fixN, p.1 ≠ wOp k ∧ p.2 ≠ wSlot k) ∧ (∀ j, j < 5 → 0 < j → aOp j ≠ wOp k ∧ aSlot j ≠ wSlot k) ∧ wSlot k ≠ 6 ∧ wOp k ≠ 0 ∧ wOp k ≠ 36 ∧ wSlot k ≠ 37 ∧ wOp k ≠ 37 ∧ wSlot k ≠ 2 ∧ (∀ j, j < 5 → iOp j ≠ wOp k) ∧ (∀ j, j < 5 → j ≠ k → wOp j ≠ wOp k ∧ wSlot j ≠ wSlot k) := by
    intro k k5
    rcases bounds5 k k5 with rfl | rfl | rfl | rfl | rfl
    all_goals decide
  obtain ⟨s1, s2, s3, s4, s5, s6, s7, s8, si, s9⟩ := hst k k5
  have hord : ∀ order : List Nat, (∀ k, k ∈ order ↔ (k < 5 ∧ L (iOp k) = true)) → ∀ j ∈ order, j ≠ k := by
    intro order e5 j hj e
    subst e
    have := ((e5 j).1 hj).2
    rw [hLi] at this
    cases this
  refine ⟨h'.mod, ?_, ?_, ?_, ?_, ?_, ?_, ?_, ?_⟩
  · intro p hp hLp
    rw [upd_ne _ _ (s1 p hp).1] at hLp
    rw [upd_ne _ _ (s1 p hp).2]
    exact h.fx p hp hLp
  · intro j j0 j5 hj
    obtain ⟨g1, g2⟩ := s2 j j5 j0
    rw [upd_ne _ _ g1] at hj
    rw [upd_ne _ _ g2]
    exact h'.arr j j0 j5 hj
  · intro j j5 hj
    by_cases hjk : j = k
    · subst hjk
      exact ⟨b, upd_same _ _ _, Nat.le_trans h.mod.size hb, hw⟩
    · obtain ⟨g1, g2⟩ := s9 j j5 hjk
      rw [upd_ne _ _ g1] at hj
      rw [upd_ne _ _ g2]
      exact h'.word j j5 hj
  · have hnew : ∀ j, j < 5 → j ≠ k → L (wOp j) = true → s (wSlot j) ≠ at0c b 0 := by
      intro j j5 hjk hj e
      obtain ⟨b2, e1, e2, e3⟩ := h.word j j5 hj
      rw [e1] at e
      have : b2 = b := by simpa [at0c] using e
      have := e3.lt
      omega
    intro j i j5 i5 hji hj hi
    by_cases hjk : j = k
    · subst hjk
      obtain ⟨g1, g2⟩ := s9 i i5 (Ne.symm hji)
      rw [upd_ne _ _ g1] at hi
      rw [upd_same, upd_ne _ _ g2]
      exact Ne.symm (hnew i i5 (Ne.symm hji) hi)
    · obtain ⟨f1, f2⟩ := s9 j j5 hjk
      rw [upd_ne _ _ f1] at hj
      by_cases hik : i = k
      · subst hik
        rw [upd_same, upd_ne _ _ f2]
        exact hnew j j5 hjk hj
      · obtain ⟨g1, g2⟩ := s9 i i5 hik
        rw [upd_ne _ _ g1] at hi
        rw [upd_ne _ _ f2, upd_ne _ _ g2]
        exact h.apart j i j5 i5 hji hj hi
  · intro h0
    rw [upd_ne _ _ (Ne.symm s4)] at h0
    obtain ⟨bM, order, e1, e2, e3, e4, e5, e6⟩ := h'.map h0
    have hno := hord order e5
    refine ⟨bM, order, by rw [upd_ne _ _ (Ne.symm s3)]; exact e1, e2, ?_, e4, ?_, ?_⟩
    · rw [e3]
      congr 3
      exact ents_congr fun j hj => by rw [upd_ne _ _ (s9 j ((e5 j).1 hj).1 (hno j hj)).2]
    · intro j
      rw [e5 j]
      constructor
      · rintro ⟨a, b⟩; exact ⟨a, by rw [upd_ne _ _ (si j a)]; exact b⟩
      · rintro ⟨a, b⟩; rw [upd_ne _ _ (si j a)] at b; exact ⟨a, b⟩
    · intro j hj
      rw [upd_ne _ _ (s9 j ((e5 j).1 hj).1 (hno j hj)).1]
      exact e6 j hj
  · intro h0 j j5
    rw [upd_ne _ _ (Ne.symm s4)] at h0
    rw [upd_ne _ _ (si j j5)]
    exact h.nomap h0 j j5
  · intro h1
    rw [upd_ne _ _ (Ne.symm s5)] at h1
    rw [upd_ne _ _ (Ne.symm s6), upd_ne _ _ (Ne.symm s3), upd_ne _ _ (Ne.symm s4)]
    exact h.m36 h1
  · intro h1
    rw [upd_ne _ _ (Ne.symm s7)] at h1
    rw [upd_ne _ _ (Ne.symm s8), upd_ne _ _ (Ne.symm s6), upd_ne _ _ (Ne.symm s5)]
    exact h.m37 h1

/-- A word is put into the map. -/
theorem InvW.put {bc B0 : Nat} {W0 : World} {L : Nat → Bool} {s : Nat → Value} {w w' : World} (h : InvW bc B0 W0 L s w) (k : Nat) (k5 : k < 5) (hL : L (iOp k) = false) (hL0 : L 0 = true) (hw : L (wOp k) = true) (bM : Nat) (order : List Nat)
    (e1 : s 6 = .map (some bM)) (e2 : W0.heap.size ≤ bM) (e3 : w.heap[bM]? = some (.map (ents (fun k => s (wSlot k)) order).toArray order.length)) (e4 : order.Nodup) (e5 : ∀ k, k ∈ order ↔ (k < 5 ∧ L (iOp k) = true)) (e6 : ∀ k ∈ order, L (wOp k) = true)
    (hm : Mod (· = bM) w w') (hb : w'.heap[bM]? = some (.map (ents (fun k => s (wSlot k)) (order ++ [k])).toArray (order.length + 1))) : InvW bc B0 W0 (upd L (iOp k) true) s w' := by
  have hst : ∀ k, k < 5 → (∀ p ∈ fixN, p.1 ≠ iOp k) ∧ (∀ j, j < 5 → 0 < j → aOp j ≠ iOp k) ∧ iOp k ≠ 0 ∧ iOp k ≠ 36 ∧ iOp k ≠ 37 ∧ (∀ j, j < 5 → wOp j ≠ iOp k) ∧ (∀ j, j < 5 → j ≠ k → iOp j ≠ iOp k) := by
    intro k k5
    rcases bounds5 k k5 with rfl | rfl | rfl | rfl | rfl
    all_goals decide
  obtain ⟨s1, s2, s3, s4, s5, s6, s7⟩ := hst k k5
  have hcells : ∀ x c t, w.heap[x]? = some (.cells c t (0, 0)) → x ≠ bM := fun x c t hx e => by
    subst e
    rw [e3] at hx
    cases hx
  refine ⟨h.mod.into hm (fun b hb => Or.inr (by omega)), ?_, ?_, ?_, ?_, ?_, ?_, ?_, ?_⟩
  · intro p hp hLp
    rw [upd_ne _ _ (s1 p hp)] at hLp
    exact h.fx p hp hLp
  · intro j j0 j5 hj
    rw [upd_ne _ _ (s2 j j5 j0)] at hj
    obtain ⟨b, f1, f2⟩ := h.arr j j0 j5 hj
    exact ⟨b, f1, hm.heap f2 (hcells _ _ _ f2)⟩
  · intro j j5 hj
    rw [upd_ne _ _ (s6 j j5)] at hj
    obtain ⟨b, f1, f2, f3⟩ := h.word j j5 hj
    exact ⟨b, f1, f2, f3.heap hm (fun x c t hx _ => hcells x c t hx)⟩
  · intro j i j5 i5 hji hj hi
    rw [upd_ne _ _ (s6 j j5)] at hj
    rw [upd_ne _ _ (s6 i i5)] at hi
    exact h.apart j i j5 i5 hji hj hi
  · intro _
    refine ⟨bM, order ++ [k], e1, e2, by rw [hb]; simp, ?_, ?_, ?_⟩
    · rw [List.nodup_append]
      refine ⟨e4, by simp, ?_⟩
      intro a ha b hb hab
      simp at hb
      subst hab
      subst hb
      have := ((e5 a).1 ha).2
      rw [hL] at this
      cases this
    · intro j
      rw [List.mem_append, e5 j]
      simp only [List.mem_singleton]
      constructor
      · rintro (⟨a, b⟩ | rfl)
        · refine ⟨a, ?_⟩
          by_cases hjk : j = k
          · subst hjk; exact upd_same _ _ _
          · rw [upd_ne _ _ (s7 j a hjk)]; exact b
        · exact ⟨k5, upd_same _ _ _⟩
      · rintro ⟨a, b⟩
        by_cases hjk : j = k
        · exact Or.inr hjk
        · rw [upd_ne _ _ (s7 j a hjk)] at b
          exact Or.inl ⟨a, b⟩
    · intro j hj
      rcases List.mem_append.1 hj with h1 | h1
      · rw [upd_ne _ _ (s6 j ((e5 j).1 h1).1)]; exact e6 j h1
      · simp at h1
        subst h1
        rw [upd_ne _ _ (s6 j k5)]; exact hw
  · intro h0
    rw [upd_ne _ _ (Ne.symm s3)] at h0
    rw [h0] at hL0
    cases hL0
  · intro h1
    rw [upd_ne _ _ (Ne.symm s4)] at h1
    rw [upd_ne _ _ (Ne.symm s3)]
    exact h.m36 h1
  · intro h1
    rw [upd_ne _ _ (Ne.symm s5)] at h1
    rw [upd_ne _ _ (Ne.symm s4)]
    exact h.m37 h1
end Go.Proofs.YtpjfiplejhbdfaaGreatDoor

namespace Go.Proofs.YtpjfiplejhbdfaaGreatDoor
open Go.RowKit Go.MapKept

/-- Block r, laid anew. -/
def setO (w : World) (r : Nat) (o : Obj) : World := { w with heap := w.heap.setIfInBounds r o }
theorem size_setO (w : World) (r : Nat) (o : Obj) : (setO w r o).heap.size = w.heap.size := by simp [setO]
theorem setO_same {w : World} {r : Nat} (o : Obj) (h : r < w.heap.size) : (setO w r o).heap[r]? = some o := by simp [setO, h]
theorem setO_mod {w : World} {r : Nat} (o : Obj) : Mod (· = r) w (setO w r o) :=
  ⟨rfl, rfl, rfl, by rw [size_setO]; exact Nat.le_refl _, fun k hk hn => by
    show (w.heap.setIfInBounds r o)[k]? = _
    rw [Array.getElem?_setIfInBounds_ne (fun e => hn e.symm)]⟩

variable {P : Program} {t kt et : TypeId}

theorem run_insS (ht : P.underlying t = some (.map kt et)) (hkt : P.underlying kt = some .string) {w : World} {r c : Nat} {es : Array MapEntry} (k : ByteArray) (v : Value) (hb : w.heap[r]? = some (.map es c))
    (hkeys : ∀ x ∈ es.toList, IsKey .string x.key) (hno : ∀ x ∈ es.toList, x.key ≠ .string k) :
    (Instr.mapUpdate t (.map (some r)) (.string k) v).run P w = .ok () (setO w r (.map (es.push { key := .string k, val := v, born := c }) (c + 1))) := by
  have hk : IsKey .string (.string k) := by simp [IsKey]
  have hf : Instr.findNow .string (.string k) es.toList 0 = some none := by
    rcases findNow_spec hk es.toList 0 hkeys with ⟨h, _⟩ | ⟨j, e, _, h2, h3⟩
    · exact h
    · exact absurd h3 (hno e (List.mem_of_getElem? h2))
  have hck : ∀ e, (Instr.checkKey e 10000 kt (.string k)).run P w = .ok () w := fun e => Go.MapKept.run_checkKey hkt hk e 9999
  unfold Instr.mapUpdate
  simp [run_underlying ht, Go.MapKept.run_getObj_map hb, Go.MapKept.run_setObj_map _ hb, hck, run_findKey hkt hf, go_sem]
  rfl

theorem run_lookS (ht : P.underlying t = some (.map kt et)) (hkt : P.underlying kt = some .string) {w : World} {r c : Nat} {es : Array MapEntry} (k : ByteArray) {e : MapEntry} (hb : w.heap[r]? = some (.map es c))
    (hkeys : ∀ x ∈ es.toList, IsKey .string x.key) (hin : e ∈ es.toList) (hek : e.key = .string k) (huniq : ∀ x ∈ es.toList, x.key = .string k → x.val = e.val) :
    (Instr.lookup t (.map (some r)) (.string k) true).run P w = .ok (.tuple #[e.val, .bool true]) w := by
  have hk : IsKey .string (.string k) := by simp [IsKey]
  obtain ⟨j, e', hf, h2, h3⟩ : ∃ j e', Instr.findNow .string (.string k) es.toList 0 = some (some (0 + j, e'.val)) ∧ es.toList[j]? = some e' ∧ e'.key = .string k := by
    rcases findNow_spec hk es.toList 0 hkeys with ⟨_, h⟩ | ⟨j, e', h1, h2, h3⟩
    · exact absurd hek (h e hin)
    · exact ⟨j, e', h1, h2, h3⟩
  have hv := huniq e' (List.mem_of_getElem? h2) h3
  have hck : ∀ e, (Instr.checkKey e 10000 kt (.string k)).run P w = .ok () w := fun e => Go.MapKept.run_checkKey hkt hk e 9999
  unfold Instr.lookup
  simp [run_underlying ht, Go.MapKept.run_getObj_map hb, hck, run_findKey hkt hf, go_sem, hv]

theorem run_lookN (ht : P.underlying t = some (.map kt et)) (hkt : P.underlying kt = some .string) {z : Value} (hz : ∀ w, (zeroValue et).run P w = .ok z w) {w : World} {r c : Nat} {es : Array MapEntry} (k : ByteArray) (hb : w.heap[r]? = some (.map es c))
    (hkeys : ∀ x ∈ es.toList, IsKey .string x.key) (hno : ∀ x ∈ es.toList, x.key ≠ .string k) :
    (Instr.lookup t (.map (some r)) (.string k) true).run P w = .ok (.tuple #[z, .bool false]) w := by
  have hk : IsKey .string (.string k) := by simp [IsKey]
  have hf : Instr.findNow .string (.string k) es.toList 0 = some none := by
    rcases findNow_spec hk es.toList 0 hkeys with ⟨h, _⟩ | ⟨j, e, _, h2, h3⟩
    · exact h
    · exact absurd h3 (hno e (List.mem_of_getElem? h2))
  have hck : ∀ e, (Instr.checkKey e 10000 kt (.string k)).run P w = .ok () w := fun e => Go.MapKept.run_checkKey hkt hk e 9999
  unfold Instr.lookup
  simp [run_underlying ht, Go.MapKept.run_getObj_map hb, hck, run_findKey hkt hf, go_sem, hz]
end Go.Proofs.YtpjfiplejhbdfaaGreatDoor

