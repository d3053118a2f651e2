/- Package chronobatelaw16: alive, the document's example. -/
import Derived.Test.YtffcklhoeejlfaaDoorCoE
namespace Go.Proofs.YtffcklhoeejlfaaDoor
open Go.RowKit

theorem ents_example : Lib.join (ents (((zero13.set 0 1).set 8 1).set 0 2) 13) [44, 32] = [116, 97, 107, 101, 110, 32, 50, 44, 32, 107, 105, 115, 115, 32, 49] := by
  have d1 : Lib.decDigits 1 = [49] := by rw [Lib.decDigits]; rfl
  have d2 : Lib.decDigits 2 = [50] := by rw [Lib.decDigits]; rfl
  have e1 : Lib.itoa 1 = [49] := d1
  have e2 : Lib.itoa 2 = [50] := d2
  simp [ents, zero13, nameL, List.range_succ, List.getD, e1, e2, Lib.join, List.intercalate]

theorem at_set (c : List Int) (hl : c.length = 13) (i k : Nat) (hi : i < 13) (x : Int) : (c.set i x).getD k 0 = if i = k then x else c.getD k 0 := by
  simp only [List.getD, List.getElem?_set]
  by_cases h : i = k
  · subst h
    simp [hl, hi]
  · simp [h]

set_option maxHeartbeats 2000000 in
theorem alive_any (w : World) (hL : Laid w) : Calls Tryd.prog 8 #[] w fun e w' => e = .returned (.bool true) ∧ Mod NoB w w' := by
  replace hL := hide hL
  go_enter Tryd.func8, Tryd.ntmps8
  go_wp2_with fail
  refine (new_any _).mono ?_
  rintro e w1 ⟨b, rfl, hle, hb, hm1⟩
  replace hb := hide hb
  replace hm1 := hide hm1
  go_wp2_with fail
  refine (add_any b 0 zero13 _ hb.out (by omega) (by rw [zero13_at]; omega) (by rw [zero13_at]; omega)).mono ?_
  rintro e w2 ⟨rfl, hb2, hm2⟩
  rw [zero13_at] at hb2
  replace hb := hide hb2
  replace hm1 := hide (hm1.out.into hm2 fun x hx => Or.inr (by omega))
  clear hb2 hm2
  go_wp2_with fail
  refine (add_any b 8 _ _ hb.out (by omega) (by decide) (by decide)).mono ?_
  rintro e w3 ⟨rfl, hb2, hm2⟩
  have e8 : (zero13.set 0 (0 + 1)).getD 8 0 = 0 := rfl
  rw [e8] at hb2
  replace hb := hide hb2
  replace hm1 := hide (hm1.out.into hm2 fun x hx => Or.inr (by omega))
  clear hb2 hm2 e8
  go_wp2_with fail
  refine (add_any b 0 _ _ hb.out (by omega) (by decide) (by decide)).mono ?_
  rintro e w4 ⟨rfl, hb2, hm2⟩
  have hb3 : CO w4 b (((zero13.set 0 1).set 8 1).set 0 2) := hb2
  have hc : ∀ k, 0 ≤ (((zero13.set 0 1).set 8 1).set 0 2).getD k 0 ∧ (((zero13.set 0 1).set 8 1).set 0 2).getD k 0 ≤ 9007199254740992 := by
    intro k
    rw [at_set _ rfl _ _ (by omega), at_set _ rfl _ _ (by omega), at_set _ rfl _ _ (by omega), zero13_at]
    (repeat' split) <;> omega
  have hcl : (((zero13.set 0 1).set 8 1).set 0 2).length = 13 := rfl
  have hsum : sumTo (((zero13.set 0 1).set 8 1).set 0 2) 13 = 1 := rfl
  have hex := ents_example
  generalize (((zero13.set 0 1).set 8 1).set 0 2) = c at hb3 hc hcl hsum hex
  replace hb := hide hb3
  replace hm1 := hide (hm1.out.into hm2 fun x hx => Or.inr (by omega))
  clear hb2 hm2 hb3
  replace hc := hide hc
  replace hcl := hide hcl
  replace hsum := hide hsum
  replace hex := hide hex
  go_wp2_with fail
  refine (text_of _ c hcl.out _ (all_any b c _ hb.out) hc.out (hL.out.mod hm1.out)).mono ?_
  rintro e w5 ⟨rfl, hm5⟩
  rw [hex.out]
  replace hb := hide (hb.out.heap hm5 id)
  replace hm1 := hide (hm1.out.trans hm5)
  clear hm5
  go_wp2_with fail
  refine (refused_of _ c hcl.out hc.out _ (all_any b c _ hb.out)).mono ?_
  rintro e w6 ⟨rfl, hm6⟩
  rw [hsum.out]
  replace hm1 := hide (hm1.out.trans hm6)
  clear hm6
  go_wp2
  go_ret
  exact ⟨bool_ret (by first | rfl | simp), hm1.out⟩
end Go.Proofs.YtffcklhoeejlfaaDoor
