/- conf.line, walked: a known word with as many numbers as it takes. -/
import Derived.Test.YtdcmjjinmnbaoaaDoorCfQ
namespace Go.Proofs.YtdcmjjinmnbaoaaDoor
open Go.RowKit

/-- The numbers of the first i words. -/
def numsV (ns : List (List UInt8)) (i : Nat) : List Int := (ns.take i).map fun s => (numR s).1
theorem numsV_succ {ns : List (List UInt8)} {i : Nat} {s : List UInt8} (h : ns[i]? = some s) : numsV ns (i + 1) = numsV ns i ++ [(numR s).1] := by
  unfold numsV
  rw [List.take_add_one, h]
  simp
theorem numsV_len {ns : List (List UInt8)} {i : Nat} (h : i ≤ ns.length) : (numsV ns i).length = i := by
  simp [numsV]; omega

theorem CM.seen {base bc B0 bM : Nat} {b : Nat → Nat} {order : List Nat} {st : St} {w : World} (h : CM base bc B0 bM b order st w) {k : Nat} (k5 : k < 5) :
    CM base bc B0 bM b order (st.1, upd st.2 k true) (w.setCell ⟨b k, 2, none⟩ (.bool true)) := by
  have hm : Mod (· = b k) w (w.setCell ⟨b k, 2, none⟩ (.bool true)) := (Mod.refl _ _).set1 _ _
  obtain ⟨f, hb⟩ := (h.word k k5).at0 k5
  obtain ⟨v, c1, c2⟩ := h.cfg
  have hlt := (h.word k k5).1
  have hbk := h.ahead.2.2 k k5
  refine ⟨hm.heap h.map (fun e => by have := h.map; rw [e, hb] at this; cases this), h.nodup, h.all, hm.heap h.box (fun e => by have := h.box; rw [e, hb] at this; cases this), ?_, h.apart, ?_, h.low, h.ahead, Nat.le_trans h.size hm.size⟩
  · intro j j5
    by_cases hj : j = k
    · subst hj
      show WordB base bc B0 j (upd st.2 j true j) _ _
      rw [upd_same]
      obtain ⟨h1, h2⟩ := h.word j j5
      refine ⟨h1, ?_⟩
      by_cases hj0 : j = 0
      · rw [if_pos hj0] at h2 ⊢
        rw [heap_setCell_eq h2]; simp
      · rw [if_neg hj0] at h2 ⊢
        obtain ⟨bl, ba, l1, l2, g1, g2, g3⟩ := h2
        refine ⟨bl, ba, l1, l2, by rw [heap_setCell_eq g1]; simp, hm.heap g2 (fun e => by rw [e, g1] at g2; simp at g2), hm.heap g3 (fun e => by rw [e, g1] at g3; simp at g3)⟩
    · show WordB base bc B0 j (upd st.2 k true j) _ _
      rw [upd_ne _ _ hj]
      obtain ⟨h1, h2⟩ := h.word j j5
      refine ⟨h1, ?_⟩
      have hjk := h.apart j k j5 k5 hj
      by_cases hj0 : j = 0
      · rw [if_pos hj0] at h2 ⊢
        exact hm.heap h2 hjk
      · rw [if_neg hj0] at h2 ⊢
        obtain ⟨bl, ba, l1, l2, g1, g2, g3⟩ := h2
        exact ⟨bl, ba, l1, l2, hm.heap g1 hjk, hm.heap g2 (fun e => by rw [e, hb] at g2; simp at g2), hm.heap g3 (fun e => by rw [e, hb] at g3; simp at g3)⟩
  · exact ⟨v, hm.heap c1 (fun e => by rw [e, hb] at c1; simp at c1), ownsRow_mod c2 hm (fun x e => by omega)⟩

/-- The config is written. -/
theorem CM.put {base bc B0 bM : Nat} {b : Nat → Nat} {order : List Nat} {st : St} {w w' : World} (h : CM base bc B0 bM b order st w) {a : Cfg} (hm : Mod (fun x => x = bc ∨ base ≤ x) w w') (hc : CfgAt base bc a w') : CM base bc B0 bM b order (a, st.2) w' := by
  obtain ⟨v, c1, _⟩ := h.cfg
  obtain ⟨a1, a2, a3⟩ := h.ahead
  obtain ⟨l1, l2, l3⟩ := h.low
  refine ⟨hm.heap h.map (by omega), h.nodup, h.all, hm.heap h.box (by omega), fun k k5 => (h.word k k5).keep hm ?_, h.apart, hc, h.low, h.ahead, Nat.le_trans h.size hm.size⟩
  intro x c t hx hb ht
  rintro (rfl | e)
  · rw [c1] at hb
    simp only [Option.some.injEq, Obj.cells.injEq] at hb
    obtain ⟨_, rfl, _⟩ := hb
    rcases ht with e | e | e <;> exact absurd e (by decide)
  · omega
end Go.Proofs.YtdcmjjinmnbaoaaDoor
