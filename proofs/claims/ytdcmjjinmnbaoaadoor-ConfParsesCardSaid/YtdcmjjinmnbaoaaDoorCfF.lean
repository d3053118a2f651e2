/- The document's Check. -/
import Derived.Test.YtdcmjjinmnbaoaaDoorCfE
namespace Go.Proofs.YtdcmjjinmnbaoaaDoor
open Go.RowKit

theorem num_bad {n q l m d s : Int} (h : q < 1 ∨ n < q ∨ l < 4 ∨ m < l ∨ 1024 < m ∨ d < 1 ∨ 1000 * l - 2000 < d ∨ s < 1 ∨ 500 < s) : numErr n q l m d s = 3 := by
  unfold numErr
  refine if_neg fun hc => ?_
  simp only [Bool.and_eq_true, inB3, decide_eq_true_eq] at hc
  omega
theorem num_good {n q l m d s : Int} (h1 : ¬ q < 1) (h2 : ¬ n < q) (h3 : ¬ l < 4) (h4 : ¬ m < l) (h5 : ¬ 1024 < m) (h6 : ¬ d < 1) (h7 : ¬ 1000 * l - 2000 < d) (h8 : ¬ s < 1) (h9 : ¬ 500 < s) : numErr n q l m d s = 0 := by
  unfold numErr
  refine if_pos ?_
  simp only [Bool.and_eq_true, inB3, decide_eq_true_eq]
  omega
theorem inI_take {xs : List Int} {v : Int} {k i : Nat} (hk : k < i) (hi : i ≤ xs.length) (h : xs.getD k 0 = v) : inI (xs.take i) v = true := by
  unfold inI
  rw [List.contains_iff_mem, ← h]
  have hkl : k < xs.length := by omega
  have : xs.getD k 0 = (xs.take i)[k]'(by simp; omega) := by simp [List.getD, hkl]
  rw [this]
  exact List.getElem_mem _
theorem inI_none {xs : List Int} {v : Int} {i : Nat} (hi : i ≤ xs.length) (h : ∀ k, k < i → xs.getD k 0 ≠ v) : inI (xs.take i) v = false := by
  unfold inI
  rw [← Bool.not_eq_true, List.contains_iff_mem]
  intro hm
  obtain ⟨k, hk, e⟩ := List.mem_iff_getElem.1 hm
  have hki : k < i := by simp at hk; omega
  have hkl : k < xs.length := by omega
  refine h k hki ?_
  rw [← e]
  simp [List.getD, hkl]

set_option maxRecDepth 100000 in
set_option maxHeartbeats 8000000 in
theorem rcheck_any (p : Option Addr) (xs : List Int) (c : Nat) (q l m d s : Int) (w : World) (h : IntsL w p xs) (hl : xs.length ≤ 1000000) :
    Calls Tryd.prog 14 #[cfgV p xs.length c q l m d s] w fun e w' => e = .returned (.int .i64 (checkR xs q l m d s)) ∧ Mod NoB w w' := by
  obtain ⟨r, hr⟩ : ∃ r, checkR xs q l m d s = r := ⟨_, rfl⟩
  rw [hr]
  replace hr := hide hr
  replace h := hide h
  by_cases h0 : xs.length = 0
  · have h13 : Hid (r = 13) := hide (by rw [← hr.out, checkR, if_pos h0])
    go_enter Tryd.func14, Tryd.ntmps14
    go_wp2
    go_ret
    exact ⟨int_ret h13.out.symm, (Mod.refl _ _).alloc _⟩
  · by_cases h16 : 16 < xs.length
    · have h11 : Hid (r = 11) := hide (by rw [← hr.out, checkR, if_neg h0, if_pos h16])
      have hz : ((xs.length : Int) == 0) = false := beq_eq_false_iff_ne.mpr (by omega)
      go_enter Tryd.func14, Tryd.ntmps14
      go_wp2
      go_ret
      exact ⟨int_ret h11.out.symm, (Mod.refl _ _).alloc _⟩
    · have hz : ((xs.length : Int) == 0) = false := beq_eq_false_iff_ne.mpr (by omega)
      have hg : decide ((16 : Int) < (xs.length : Int)) = false := by simp; omega
      have hs3 := hide (fun (e : Int) (a : srvErr xs xs.length = e) (b : e ≠ 0) => hr.out.symm.trans (check_srv h0 h16 a b))
      have hnum := hide (fun (a : srvErr xs xs.length = 0) => hr.out.symm.trans (check_num (q := q) (l := l) (m := m) (d := d) (s := s) h0 h16 a))
      have hB := heap_alloc_new w (.cells #[.slice p xs.length c, .int .i64 q, .int .i64 l, .int .i64 m, .int .i64 d, .int .i64 s] 25)
      replace hB := hide hB
      go_enter Tryd.func14, Tryd.ntmps14
      go_wp2_with fail
      obtain ⟨W1, hW1⟩ : ∃ W1, w.alloc (.cells #[.slice p xs.length c, .int .i64 q, .int .i64 l, .int .i64 m, .int .i64 d, .int .i64 s] 25) = W1 := ⟨_, rfl⟩
      rw [hW1] at hB ⊢
      have hm1 : Hid (Mod NoB w W1) := hide (by rw [← hW1]; exact (Mod.refl _ _).alloc _)
      clear hW1
      go_loopw [3] (fun vi wr => ∃ i : Nat, i ≤ xs.length ∧ vi = .int .i64 i ∧ srvErr xs i = 0 ∧ Mod NoB W1 wr) (fun vi _ => xs.length - (intOf vi).toNat)
      case atStart => exact ⟨0, by omega, rfl, rfl, Mod.refl _ _⟩
      case round =>
        obtain ⟨i, hi, rfl, hsi, hm⟩ := hrel
        have hBr := hm.heap hB.out id
        have b0 := cell_of_block hBr 0 (v := .slice p xs.length c) rfl
        by_cases hlt : i < xs.length
        · obtain ⟨b, off, hp, hb, hcell⟩ := h.out i hlt
          replace hcell := (hm1.out.trans hm).cellAt id hcell
          have hlow := hide (fun h => hs3.out 3 (srv_at hlt (srv_low hsi h) (by decide)) (by decide))
          have htw := hide (fun h h2 => hs3.out 12 (srv_at hlt (srv_twice hsi h h2) (by decide)) (by decide))
          have hfi := hide (fun h h2 => srv_fine (xs := xs) (k := i) hsi h h2)
          have hint := hide (fun (k : Nat) (hk : k < i) (v : Int) (e : xs.getD k 0 = v) => inI_take (xs := xs) hk hi e)
          have hinn := hide (fun v h => inI_none (xs := xs) (v := v) hi h)
          subst hp
          replace hm := hide hm
          replace hsi := hide hsi
          have hxi := hcell
          generalize hx : xs.getD i 0 = x at hcell hlow htw hfi
          rw [hx] at hxi
          replace hx := hide hx
          clear hxi
          have hi0 : (0 : Int) ≤ (i : Int) := by omega
          have hi1 : (i : Int) < (xs.length : Int) := by omega
          by_cases h1 : x < 1
          · have h3 := hide (hlow.out (by simp [inB3]; omega))
            clear hlow htw hfi hint hinn
            go_wp2
            go_ret
            exact ⟨int_ret h3.out.symm, hm1.out.trans hm.out⟩
          · by_cases h2 : 65535 < x
            · have h3 := hide (hlow.out (by simp [inB3]; omega))
              clear hlow htw hfi hint hinn
              go_wp2
              go_ret
              exact ⟨int_ret h3.out.symm, hm1.out.trans hm.out⟩
            · have hin : inB3 x 1 65535 = true := by simp [inB3]; omega
              replace htw := hide (htw.out hin)
              replace hfi := hide (hfi.out hin)
              clear hin hlow
              go_wp2_with fail
              obtain ⟨wo, rfl⟩ : ∃ wo : World, wo = wr := ⟨_, rfl⟩
              replace b0 := hide b0
              replace hcell := hide hcell
              replace hBr := hide hBr
              go_loopw [4] (fun vk wr => ∃ k : Nat, k ≤ i ∧ vk = .int .i64 k ∧ (∀ j, j < k → xs.getD j 0 ≠ x) ∧ Mod NoB wo wr) (fun vk _ => i - (intOf vk).toNat)
              case atStart => exact ⟨0, by omega, rfl, by omega, Mod.refl _ _⟩
              case round =>
                obtain ⟨k, hk, rfl, hall, hmi⟩ := hrel
                have c0 := hmi.cellAt id b0.out
                have c1 := hmi.cellAt id hcell.out
                by_cases hki : k < i
                · obtain ⟨b', off', hp', _, hck⟩ := h.out k (by omega)
                  cases hp'
                  replace hck := (hm1.out.trans (hm.out.trans hmi)).cellAt id hck
                  have htk := hide (hint.out k hki)
                  have hal : Hid (xs.getD k 0 ≠ x → ∀ j, j < k + 1 → xs.getD j 0 ≠ x) := hide (fun hne j hj => by
                    rcases Nat.lt_or_ge j k with h | h
                    · exact hall j h
                    · obtain rfl : j = k := by omega
                      exact hne)
                  replace hall := hide hall
                  replace hmi := hide hmi
                  generalize xs.getD k 0 = y at hck htk hal
                  have hk0 : (0 : Int) ≤ (k : Int) := by omega
                  have hk1 : (k : Int) < (xs.length : Int) := by omega
                  by_cases hyx : y = x
                  · subst hyx
                    have hr12 := hide (htw.out (htk.out _ (by first | rfl | trivial)))
                    clear htw hfi hint hinn htk hal
                    go_wp2_with fail
                    go_quiet (fail)
                    go_wp2
                    go_ret
                    exact ⟨int_ret hr12.out.symm, hm1.out.trans ((hm.out.trans hmi.out).drewN _)⟩
                  · have hyb : (y == x) = false := by simpa using hyx
                    go_wp2_with fail
                    go_quiet (fail)
                    go_wp2_with fail
                    go_roundw
                    case rel => exact ⟨k + 1, by omega, by go_num, hal.out hyx, hmi.out.drewN _⟩
                    case measure => simp [intOf]; omega
                · obtain rfl : k = i := by omega
                  have hsn := hide (hfi.out (hinn.out x hall))
                  clear hall hinn hint htw hfi
                  replace hmi := hide hmi
                  go_wp2_with fail
                  go_roundw
                  case rel => exact ⟨k + 1, by omega, by go_num, hsn.out, hm.out.trans hmi.out⟩
                  case measure => simp [intOf]; omega
        · obtain rfl : i = xs.length := by omega
          have hrn : r = numErr xs.length q l m d s := hnum.out hsi
          replace hsi := hide hsi
          have b1 := cell_of_block hBr 1 (v := .int .i64 q) rfl
          have b2 := cell_of_block hBr 2 (v := .int .i64 l) rfl
          have b3 := cell_of_block hBr 3 (v := .int .i64 m) rfl
          have b4 := cell_of_block hBr 4 (v := .int .i64 d) rfl
          have b5 := cell_of_block hBr 5 (v := .int .i64 s) rfl
          replace hBr := hide hBr
          replace hm := hide hm
          replace hrn := hide hrn
          by_cases t0 : q < 1
          · have h3 : Hid (r = 3) := hide (hrn.out.trans (num_bad (by omega)))
            clear hrn
            go_wp2
            go_ret
            exact ⟨int_ret h3.out.symm, hm1.out.trans hm.out⟩
          · skip
            by_cases t1 : (xs.length : Int) < q
            · have h3 : Hid (r = 3) := hide (hrn.out.trans (num_bad (by omega)))
              clear hrn
              go_wp2
              go_ret
              exact ⟨int_ret h3.out.symm, hm1.out.trans hm.out⟩
            · skip
              by_cases t2 : l < 4
              · have h3 : Hid (r = 3) := hide (hrn.out.trans (num_bad (by omega)))
                clear hrn
                go_wp2
                go_ret
                exact ⟨int_ret h3.out.symm, hm1.out.trans hm.out⟩
              · skip
                by_cases t3 : m < l
                · have h3 : Hid (r = 3) := hide (hrn.out.trans (num_bad (by omega)))
                  clear hrn
                  go_wp2
                  go_ret
                  exact ⟨int_ret h3.out.symm, hm1.out.trans hm.out⟩
                · skip
                  by_cases t4 : 1024 < m
                  · have h3 : Hid (r = 3) := hide (hrn.out.trans (num_bad (by omega)))
                    clear hrn
                    go_wp2
                    go_ret
                    exact ⟨int_ret h3.out.symm, hm1.out.trans hm.out⟩
                  · skip
                    by_cases t5 : d < 1
                    · have h3 : Hid (r = 3) := hide (hrn.out.trans (num_bad (by omega)))
                      clear hrn
                      go_wp2
                      go_ret
                      exact ⟨int_ret h3.out.symm, hm1.out.trans hm.out⟩
                    · skip
                      by_cases t6 : 1000 * l - 2000 < d
                      · have h3 : Hid (r = 3) := hide (hrn.out.trans (num_bad (by omega)))
                        clear hrn
                        go_wp2
                        go_ret
                        exact ⟨int_ret h3.out.symm, hm1.out.trans hm.out⟩
                      · skip
                        by_cases t7 : s < 1
                        · have h3 : Hid (r = 3) := hide (hrn.out.trans (num_bad (by omega)))
                          clear hrn
                          go_wp2
                          go_ret
                          exact ⟨int_ret h3.out.symm, hm1.out.trans hm.out⟩
                        · skip
                          by_cases t8 : 500 < s
                          · have h3 : Hid (r = 3) := hide (hrn.out.trans (num_bad (by omega)))
                            clear hrn
                            go_wp2
                            go_ret
                            exact ⟨int_ret h3.out.symm, hm1.out.trans hm.out⟩
                          · skip
                            have h3 : Hid (r = 0) := hide (hrn.out.trans (num_good t0 t1 t2 t3 t4 t5 t6 t7 t8))
                            clear hrn
                            go_wp2
                            go_ret
                            exact ⟨int_ret h3.out.symm, hm1.out.trans hm.out⟩
end Go.Proofs.YtdcmjjinmnbaoaaDoor
