/- Package chronobatelaw13: alive, the document's example. -/
import Derived.Test.YtlcnahnondgofaaBkC
namespace Go.Proofs.Ytlcnahnondgofaa
open Go.RowKit

theorem alive_any (w : World) : Calls Try.prog 8 #[] w fun e w' => e = .returned (.bool true) ∧ Mod NoB w w' := by
  go_enter Try.func8, Try.ntmps8
  go_wp2_with fail
  refine (new_ok 4 20 ⟨by omega, by omega⟩ ⟨by omega, by omega⟩ rfl rfl (by omega) _).mono ?_
  rintro e w1 ⟨b, rfl, hle, hb, hm1⟩
  have hlt := lt_of_block hb
  have HB' := hide hb
  clear hb
  go_wp2_with fail
  go_loopw [17] (fun i wr => ∃ k : Nat, k ≤ 4 ∧ i = .int .i64 k ∧ BO wr b 4 20 ([4, 8, 16, 20, 20].getD k 0) k ∧
      wr.heap[w1.heap.size]? = some (.cells #[.int .i64 8, .int .i64 16, .int .i64 20, .int .i64 20] 3 (0, 0)) ∧ Mod NoB w wr)
    (fun i _ => 4 - (intOf i).toNat)
  case atStart => exact ⟨0, by omega, rfl, (heap_alloc_old hlt _).trans HB'.out, heap_alloc_new _ _, hm1.alloc _⟩
  case round =>
    obtain ⟨k, hk, rfl, hbo, hs, hm⟩ := hrel
    have HM := hide hm
    have HS := hide hs
    have HB := hide hbo
    clear hm hs hbo
    obtain rfl | rfl | rfl | rfl | rfl : k = 0 ∨ k = 1 ∨ k = 2 ∨ k = 3 ∨ k = 4 := by omega
    · have c := cell_of_block HS.out 0 rfl
      go_wp2_with fail
      refine (fail_any b 4 20 4 0 _ HB.out ⟨by omega, by omega⟩ ⟨by omega, by omega⟩ (by omega) (by omega)).mono ?_
      rintro e w' ⟨rfl, h1, h2⟩
      have e1 : nextZ 4 20 = 8 := rfl
      rw [e1] at h1
      rw [e1]
      clear e1
      replace h1 := hide h1
      replace h2 := hide h2
      go_wp2
      go_roundw
      case rel => exact ⟨1, by omega, by go_num, h1.out, h2.out.heap HS.out (by omega), HM.out.into h2.out fun x hx => Or.inr (by omega)⟩
      case measure => simp [intOf]
    · have c := cell_of_block HS.out 1 rfl
      go_wp2_with fail
      refine (fail_any b 4 20 8 1 _ HB.out ⟨by omega, by omega⟩ ⟨by omega, by omega⟩ (by omega) (by omega)).mono ?_
      rintro e w' ⟨rfl, h1, h2⟩
      have e1 : nextZ 8 20 = 16 := rfl
      rw [e1] at h1
      rw [e1]
      clear e1
      replace h1 := hide h1
      replace h2 := hide h2
      go_wp2
      go_roundw
      case rel => exact ⟨2, by omega, by go_num, h1.out, h2.out.heap HS.out (by omega), HM.out.into h2.out fun x hx => Or.inr (by omega)⟩
      case measure => simp [intOf]
    · have c := cell_of_block HS.out 2 rfl
      go_wp2_with fail
      refine (fail_any b 4 20 16 2 _ HB.out ⟨by omega, by omega⟩ ⟨by omega, by omega⟩ (by omega) (by omega)).mono ?_
      rintro e w' ⟨rfl, h1, h2⟩
      have e1 : nextZ 16 20 = 20 := rfl
      rw [e1] at h1
      rw [e1]
      clear e1
      replace h1 := hide h1
      replace h2 := hide h2
      go_wp2
      go_roundw
      case rel => exact ⟨3, by omega, by go_num, h1.out, h2.out.heap HS.out (by omega), HM.out.into h2.out fun x hx => Or.inr (by omega)⟩
      case measure => simp [intOf]
    · have c := cell_of_block HS.out 3 rfl
      go_wp2_with fail
      refine (fail_any b 4 20 20 3 _ HB.out ⟨by omega, by omega⟩ ⟨by omega, by omega⟩ (by omega) (by omega)).mono ?_
      rintro e w' ⟨rfl, h1, h2⟩
      have e1 : nextZ 20 20 = 20 := rfl
      rw [e1] at h1
      rw [e1]
      clear e1
      replace h1 := hide h1
      replace h2 := hide h2
      go_wp2
      go_roundw
      case rel => exact ⟨4, by omega, by go_num, h1.out, h2.out.heap HS.out (by omega), HM.out.into h2.out fun x hx => Or.inr (by omega)⟩
      case measure => simp [intOf]
    · go_wp2_with fail
      refine (times_any b 4 20 20 4 _ HB.out).mono ?_
      rintro e w' ⟨rfl, rfl⟩
      go_wp2_with fail
      refine (good_any b 4 20 20 4 _ HB.out).mono ?_
      rintro e w2 ⟨rfl, h1, h2⟩
      replace h2 := hide h2
      go_wp2_with fail
      refine (times_any b 4 20 4 0 _ h1).mono ?_
      rintro e w' ⟨rfl, rfl⟩
      go_wp2
      go_ret
      exact ⟨rfl, HM.out.into h2.out fun x hx => Or.inr (by omega)⟩
end Go.Proofs.Ytlcnahnondgofaa
