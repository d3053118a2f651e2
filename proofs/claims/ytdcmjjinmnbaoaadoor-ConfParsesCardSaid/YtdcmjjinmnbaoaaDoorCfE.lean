/- conf.Check. -/
import Derived.Test.YtdcmjjinmnbaoaaDoorCfD
namespace Go.Proofs.YtdcmjjinmnbaoaaDoor
open Go.RowKit

/-- What is wrong with the first n servers. -/
def srvErr (xs : List Int) : Nat → Int
  | 0 => 0
  | n + 1 => if srvErr xs n ≠ 0 then srvErr xs n else if inB3 (xs.getD n 0) 1 65535 = false then 3 else if inI (xs.take n) (xs.getD n 0) = true then 12 else 0
/-- What is wrong with the numbers. -/
def numErr (n q l m d s : Int) : Int := if (inB3 l 4 1024 && inB3 m l 1024 && inB3 q 1 n && inB3 d 1 (1000 * l - 2000) && inB3 s 1 500) = true then 0 else 3
/-- What is wrong with a config. -/
def checkR (xs : List Int) (q l m d s : Int) : Int :=
  if xs.length = 0 then 13 else if 16 < xs.length then 11 else if srvErr xs xs.length ≠ 0 then srvErr xs xs.length else numErr xs.length q l m d s

theorem srv_stop {xs : List Int} {k : Nat} (h : srvErr xs k ≠ 0) : ∀ n, srvErr xs (k + n) = srvErr xs k := by
  intro n
  induction n with
  | zero => rfl
  | succ n ih =>
    show (if srvErr xs (k + n) ≠ 0 then srvErr xs (k + n) else _) = _
    rw [ih, if_pos h]
theorem srv_at {xs : List Int} {k : Nat} {e : Int} (hk : k < xs.length) (h : srvErr xs (k + 1) = e) (he : e ≠ 0) : srvErr xs xs.length = e := by
  obtain ⟨n, hn⟩ : ∃ n, xs.length = k + 1 + n := ⟨xs.length - (k + 1), by omega⟩
  rw [hn, srv_stop (by rw [h]; exact he), h]
theorem srv_low {xs : List Int} {k : Nat} (h0 : srvErr xs k = 0) (h : inB3 (xs.getD k 0) 1 65535 = false) : srvErr xs (k + 1) = 3 := by
  rw [srvErr, if_neg (by rw [h0]; simp), if_pos h]
theorem srv_twice {xs : List Int} {k : Nat} (h0 : srvErr xs k = 0) (h : inB3 (xs.getD k 0) 1 65535 = true) (h2 : inI (xs.take k) (xs.getD k 0) = true) : srvErr xs (k + 1) = 12 := by
  rw [srvErr, if_neg (by rw [h0]; simp), if_neg (by rw [h]; simp), if_pos h2]
theorem srv_fine {xs : List Int} {k : Nat} (h0 : srvErr xs k = 0) (h : inB3 (xs.getD k 0) 1 65535 = true) (h2 : inI (xs.take k) (xs.getD k 0) = false) : srvErr xs (k + 1) = 0 := by
  rw [srvErr, if_neg (by rw [h0]; simp), if_neg (by rw [h]; simp), if_neg (by rw [h2]; simp)]
theorem inB3_true {n lo hi : Int} (h : inB3 n lo hi = true) : lo ≤ n ∧ n ≤ hi := by
  simpa [inB3] using h
theorem check_srv {xs : List Int} {q l m d s e : Int} (h0 : xs.length ≠ 0) (h16 : ¬ 16 < xs.length) (h : srvErr xs xs.length = e) (he : e ≠ 0) : checkR xs q l m d s = e := by
  rw [checkR, if_neg h0, if_neg h16, if_pos (by rw [h]; exact he), h]
theorem check_num {xs : List Int} {q l m d s : Int} (h0 : xs.length ≠ 0) (h16 : ¬ 16 < xs.length) (h : srvErr xs xs.length = 0) : checkR xs q l m d s = numErr xs.length q l m d s := by
  rw [checkR, if_neg h0, if_neg h16, if_neg (by rw [h]; simp)]

/-- A config by value. -/
abbrev cfgV (p : Option Addr) (n c : Nat) (q l m d s : Int) : Value := .agg #[.slice p n c, .int .i64 q, .int .i64 l, .int .i64 m, .int .i64 d, .int .i64 s]

set_option maxRecDepth 100000 in
set_option maxHeartbeats 8000000 in
theorem check_any (p : Option Addr) (xs : List Int) (c : Nat) (q l m d s : Int) (w : World) (h : IntsL w p xs) (hc : xs.length ≤ c) (hl : xs.length ≤ 1000000) :
    Calls Tryd.prog 15 #[cfgV p xs.length c q l m d s] w fun e w' => e = .returned (.int .i64 (checkR xs q l m d s)) ∧ Mod NoB w w' := by
  obtain ⟨r, hr⟩ : ∃ r, checkR xs q l m d s = r := ⟨_, rfl⟩
  rw [hr]
  replace hr := hide hr
  replace h := hide h
  by_cases h0 : xs.length = 0
  · have h13 : Hid (r = 13) := hide (by rw [← hr.out, checkR, if_pos h0])
    go_enter Tryd.func15, Tryd.ntmps15
    go_wp2
    go_ret
    exact ⟨int_ret h13.out.symm, (Mod.refl _ _).alloc _⟩
  · by_cases h16 : 16 < xs.length
    · have h11 : Hid (r = 11) := hide (by rw [← hr.out, checkR, if_neg h0, if_pos h16])
      have hz : ((xs.length : Int) == 0) = false := beq_eq_false_iff_ne.mpr (by omega)
      go_enter Tryd.func15, Tryd.ntmps15
      go_wp2
      go_ret
      exact ⟨int_ret h11.out.symm, (Mod.refl _ _).alloc _⟩
    · have hz : ((xs.length : Int) == 0) = false := beq_eq_false_iff_ne.mpr (by omega)
      have hg : decide ((16 : Int) < (xs.length : Int)) = false := by simp; omega
      have hs3 := hide (fun (e : Int) (a : srvErr xs xs.length = e) (b : e ≠ 0) => hr.out.symm.trans (check_srv h0 h16 a b))
      have hnum := hide (fun (a : srvErr xs xs.length = 0) => hr.out.symm.trans (check_num (q := q) (l := l) (m := m) (d := d) (s := s) h0 h16 a))
      have hB := heap_alloc_new w (.cells #[.slice p xs.length c, .int .i64 q, .int .i64 l, .int .i64 m, .int .i64 d, .int .i64 s] 25)
      replace hB := hide hB
      go_enter Tryd.func15, Tryd.ntmps15
      go_wp2_with fail
      obtain ⟨W1, hW1⟩ : ∃ W1, w.alloc (.cells #[.slice p xs.length c, .int .i64 q, .int .i64 l, .int .i64 m, .int .i64 d, .int .i64 s] 25) = W1 := ⟨_, rfl⟩
      rw [hW1] at hB ⊢
      have hm1 : Hid (Mod NoB w W1) := hide (by rw [← hW1]; exact (Mod.refl _ _).alloc _)
      clear hW1
      go_loopw [18] (fun vi wr => ∃ i : Nat, i ≤ xs.length ∧ vi = .int .i64 i ∧ srvErr xs i = 0 ∧ Mod NoB W1 wr) (fun vi _ => xs.length - (intOf vi).toNat)
      case atStart => exact ⟨0, by omega, rfl, rfl, Mod.refl _ _⟩
      case round =>
        obtain ⟨i, hi, rfl, hsi, hm⟩ := hrel
        have hBr := hm.heap hB.out id
        have b0 := cell_of_block hBr 0 (v := .slice p xs.length c) rfl
        by_cases hlt : i < xs.length
        · obtain ⟨b, off, hp, hb, hcell⟩ := h.out i hlt
          replace hcell := (hm1.out.trans hm).cellAt id hcell
          have hlow := hide (fun h => hs3.out 3 (srv_at hlt (srv_low hsi h) (by decide)) (by decide))
          have htw := hide (fun h h2 => hs3.out 12 (srv_at hlt (srv_twice hsi h h2) (by decide)) (by decide))
          have hfi := hide (fun h h2 => srv_fine (xs := xs) (k := i) hsi h h2)
          have htl : (xs.take i).length = i := by simp; omega
          have hct := fun w' v (h' : Mod NoB wr w') => contains_any p (xs.take i) c v w' ((h.out.mod0 ((hm1.out.trans hm).trans h')).take i) (by omega)
          rw [htl] at hct
          replace hct := hide hct
          subst hp
          replace hm := hide hm
          replace hsi := hide hsi
          replace htl := hide htl
          generalize xs.getD i 0 = x at hcell hlow htw hfi
          have hic : (i : Int) ≤ (c : Int) := by omega
          go_wp2_with fail
          refine (within_any x 1 65535 _).mono ?_
          rintro e w' ⟨rfl, rfl⟩
          cases hin : inB3 x 1 65535 with
          | false =>
            have h3 := hide (hlow.out hin)
            clear hlow htw hfi hct hin
            go_wp2
            go_ret
            exact ⟨int_ret h3.out.symm, hm1.out.trans hm.out⟩
          | true =>
            go_wp2_with fail
            refine (hct.out _ x (Mod.refl _ _)).mono ?_
            rintro e w2 ⟨rfl, hm2⟩
            replace hm := hide (hm.out.trans hm2)
            clear hm2
            cases hin2 : inI (xs.take i) x with
            | true =>
              have h12 := hide (htw.out hin hin2)
              clear hlow htw hfi hct hin hin2
              go_wp2
              go_ret
              exact ⟨int_ret h12.out.symm, hm1.out.trans hm.out⟩
            | false =>
              have hsn := hide (hfi.out hin hin2)
              clear hlow htw hfi hct hin hin2
              go_wp2_with fail
              go_roundw
              case rel => exact ⟨i + 1, by omega, by go_num, hsn.out, hm.out⟩
              case measure => simp [intOf]; omega
        · obtain rfl : i = xs.length := by omega
          have hrn : r = numErr xs.length q l m d s := hnum.out hsi
          unfold numErr at hrn
          replace hsi := hide hsi
          have b1 := cell_of_block hBr 1 (v := .int .i64 q) rfl
          have b2 := cell_of_block hBr 2 (v := .int .i64 l) rfl
          have b3 := cell_of_block hBr 3 (v := .int .i64 m) rfl
          have b4 := cell_of_block hBr 4 (v := .int .i64 d) rfl
          have b5 := cell_of_block hBr 5 (v := .int .i64 s) rfl
          replace hBr := hide hBr
          replace hm := hide hm
          go_wp2_with fail
          refine (within_any l 4 1024 _).mono ?_
          rintro e w' ⟨rfl, rfl⟩
          cases e0 : inB3 l 4 1024 with
          | false =>
            have h3 : Hid (r = 3) := hide (by rw [hrn, e0]; simp)
            clear hrn e0
            go_wp2
            go_ret
            exact ⟨int_ret h3.out.symm, hm1.out.trans hm.out⟩
          | true =>
            have hl2 := inB3_true e0
            obtain ⟨hl4, hl1024⟩ := hl2
            skip
            go_wp2_with fail
            refine (within_any m l 1024 _).mono ?_
            rintro e w' ⟨rfl, rfl⟩
            cases e1 : inB3 m l 1024 with
            | false =>
              have h3 : Hid (r = 3) := hide (by rw [hrn, e1]; simp)
              clear hrn e0 e1
              go_wp2
              go_ret
              exact ⟨int_ret h3.out.symm, hm1.out.trans hm.out⟩
            | true =>
              skip
              go_wp2_with fail
              refine (within_any q 1 xs.length _).mono ?_
              rintro e w' ⟨rfl, rfl⟩
              cases e2 : inB3 q 1 xs.length with
              | false =>
                have h3 : Hid (r = 3) := hide (by rw [hrn, e2]; simp)
                clear hrn e0 e1 e2
                go_wp2
                go_ret
                exact ⟨int_ret h3.out.symm, hm1.out.trans hm.out⟩
              | true =>
                skip
                go_wp2_with fail
                refine (within_any d 1 (1000 * l - 2000) _).mono ?_
                rintro e w' ⟨rfl, rfl⟩
                cases e3 : inB3 d 1 (1000 * l - 2000) with
                | false =>
                  have h3 : Hid (r = 3) := hide (by rw [hrn, e3]; simp)
                  clear hrn e0 e1 e2 e3
                  go_wp2
                  go_ret
                  exact ⟨int_ret h3.out.symm, hm1.out.trans hm.out⟩
                | true =>
                  skip
                  go_wp2_with fail
                  refine (within_any s 1 500 _).mono ?_
                  rintro e w' ⟨rfl, rfl⟩
                  cases e4 : inB3 s 1 500 with
                  | false =>
                    have h3 : Hid (r = 3) := hide (by rw [hrn, e4]; simp)
                    clear hrn e0 e1 e2 e3 e4
                    go_wp2
                    go_ret
                    exact ⟨int_ret h3.out.symm, hm1.out.trans hm.out⟩
                  | true =>
                    skip
                    have h3 : Hid (r = 0) := hide (by rw [hrn, e0, e1, e2, e3, e4]; simp)
                    clear hrn e0 e1 e2 e3 e4
                    go_wp2
                    go_ret
                    exact ⟨int_ret h3.out.symm, hm1.out.trans hm.out⟩
end Go.Proofs.YtdcmjjinmnbaoaaDoor
