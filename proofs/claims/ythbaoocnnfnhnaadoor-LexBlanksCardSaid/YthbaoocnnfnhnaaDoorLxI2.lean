/- same: the lines of both. -/
import Derived.Test.YthbaoocnnfnhnaaDoorLxJ
namespace Go.Proofs.YthbaoocnnfnhnaaDoor
open Go.RowKit

set_option maxRecDepth 100000 in
set_option maxHeartbeats 8000000 in
theorem same_eq (a b : Value) (L : List (Nat × List (List UInt8))) (ba bb : Nat) (w : World) (hL : L.length ≤ 1000000) (hW : ∀ x ∈ L, x.2.length ≤ 1000000) (ha : LinesAt 36 ba w a L) (hb : LinesAt 62 bb w b L) :
    Calls Tryd.prog 13 #[a, b] w fun e w' => e = .returned (.bool true) ∧ Mod NoB w w' := by
  obtain ⟨pa, ca, rfl, hca⟩ := ha.open
  obtain ⟨pb, cb, rfl, hcb⟩ := hb.open
  clear ha hb
  replace hW := hide hW
  replace hca := hide hca
  replace hcb := hide hcb
  go_enter Tryd.func13, Tryd.ntmps13
  go_wp2_with fail
  go_loopw [14] (fun vi wr => ∃ i : Nat, i ≤ L.length ∧ vi = .int .i64 i ∧ Mod NoB w wr) (fun vi _ => L.length - (intOf vi).toNat)
  case atStart => exact ⟨0, by omega, rfl, Mod.refl _ _⟩
  case round =>
    obtain ⟨i, hi, rfl, hm⟩ := hrel
    by_cases hlt : i < L.length
    · obtain ⟨x, hx⟩ : ∃ x, L[i]? = some x := ⟨L[i], by simp [hlt]⟩
      have hxl := hW.out x (List.mem_of_getElem? hx)
      obtain ⟨ga, ua, va, rfl, a1, a2, a3⟩ := hca.out i x hx
      obtain ⟨gb, ub, vb, rfl, b1, b2, b3⟩ := hcb.out i x hx
      replace a1 := hm.cellAt id a1
      replace a2 := hm.cellAt id a2
      replace b1 := hm.cellAt id b1
      replace b2 := hm.cellAt id b2
      replace a3 := hide (ownsRow_mod a3 hm (fun _ h => h.elim))
      replace b3 := hide (ownsRow_mod b3 hm (fun _ h => h.elim))
      replace hm := hide hm
      replace hx := hide hx
      have ha0 : (0 : Int) ≤ (i : Int) := by omega
      have hlt2 : (i : Int) < (L.length : Int) := by omega
      clear hca hcb
      go_wp2_with fail
      go_quiet (fail)
      go_wp2_with fail
      obtain ⟨wo, rfl⟩ : ∃ wo : World, wo = wr := ⟨_, rfl⟩
      replace a1 := hide a1
      replace a2 := hide a2
      replace b1 := hide b1
      replace b2 := hide b2
      go_loopw [49] (fun vk wr => ∃ k : Nat, k ≤ x.2.length ∧ vk = .int .i64 k ∧ Mod NoB wo wr) (fun vk _ => x.2.length - (intOf vk).toNat)
      case atStart => exact ⟨0, by omega, rfl, (Mod.refl _ _).drewN _⟩
      case round =>
        obtain ⟨k, hk, rfl, hmi⟩ := hrel
        have d1 := hmi.cellAt id a2.out
        have d2 := hmi.cellAt id b2.out
        by_cases hlk : k < x.2.length
        · obtain ⟨y, hy⟩ : ∃ y, x.2[k]? = some y := ⟨x.2[k], by simp [hlk]⟩
          obtain ⟨g1, q1, e1, -, -, f1⟩ := StrsAt.open a3.out (by omega)
          obtain ⟨g2, q2, e2, -, -, f2⟩ := StrsAt.open b3.out (by omega)
          cases e1
          cases e2
          replace f1 := hmi.cellAt id (f1 k y hy)
          replace f2 := hmi.cellAt id (f2 k y hy)
          replace hmi := hide hmi
          replace hy := hide hy
          have hk0 : (0 : Int) ≤ (k : Int) := by omega
          have hlk2 : (k : Int) < (x.2.length : Int) := by omega
          go_wp2_with fail
          go_quiet (fail)
          go_wp2_with fail
          go_roundw
          case rel => exact ⟨k + 1, by omega, by go_num, hmi.out.drewN _⟩
          case measure => simp [intOf]; omega
        · obtain rfl : k = x.2.length := by omega
          replace hmi := hide hmi
          go_wp2
          go_roundw
          case rel => exact ⟨i + 1, by omega, by go_num, hm.out.trans hmi.out⟩
          case measure => simp [intOf]; omega
    · obtain rfl : i = L.length := by omega
      replace hm := hide hm
      go_wp2
      go_ret
      exact ⟨rfl, hm.out⟩
end Go.Proofs.YthbaoocnnfnhnaaDoor
