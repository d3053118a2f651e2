/- lex.Number, and the document's. -/
import Derived.Test.YthbaoocnnfnhnaaDoorLxP
import Derived.Test.YthbaoocnnfnhnaaDoorKitQ
namespace Go.Proofs.YthbaoocnnfnhnaaDoor
open Go.RowKit

/-- What numbers take of the library's variables. -/
structure LaidN (w : World) : Prop where
  s : LaidS w
  pow : Lib.TabIs Tryd.prog w "internal/strconv.uint64pow10" .u64 Lib.pow10Tab
  err : ∃ tp p, w.var? Tryd.prog "strconv.ErrRange" = some #[.iface tp p]
theorem gPow : Tryd.prog.globalNamed "internal/strconv.uint64pow10" = some 7 := by kernel_rfl
theorem gErrR : Tryd.prog.globalNamed "strconv.ErrRange" = some 4 := by kernel_rfl
theorem LaidN.mod {w w' : World} (h : LaidN w) (hm : Mod NoB w w') : LaidN w' :=
  ⟨h.s.mod hm, Mod.var hm gPow id h.pow, let ⟨tp, p, e⟩ := h.err; ⟨tp, p, Mod.var hm gErrR id e⟩⟩

theorem trimw_any (l : List UInt8) (w : World) (hl : l.length ≤ 9223372036854775807) :
    Calls Tryd.prog 38 #[.string (bs l), .string ⟨#[48, 49, 50, 51, 52, 53, 54, 55, 56, 57]⟩] w fun e w' => e = .returned (.string (bs (Lib.trimS l digits10))) ∧ Mod NoB w w' :=
  (Any.strings_Trim_laid Tryd.lays160 (by kernel_rfl) (bs l) ⟨#[48, 49, 50, 51, 52, 53, 54, 55, 56, 57]⟩ w hl (by decide) (ascii_of_all (by decide))).mono fun _ _ ⟨h1, h2⟩ => ⟨h1, Below.mod h2⟩

/-- strconv.Atoi at digits: what stands beside an error is not looked at. -/
def AtoiOut (w : World) (l : List UInt8) (e : Ending) (w' : World) : Prop :=
  (if decV l < 9223372036854775808 then e = .returned (.tuple #[.int .i64 (decV l : Nat), .nilIface]) else ∃ (x : Int) (t : TypeId) (p : Value), e = .returned (.tuple #[.int .i64 x, .iface t p])) ∧ Mod NoB w w'
theorem atoiw_any (l : List UInt8) (w : World) (hl : l.length ≤ 1000000) (h0 : l ≠ []) (hd : l.all isDig = true) (hL : LaidN w) :
    Calls Tryd.prog 39 #[.string (bs l)] w (AtoiOut w l) := by
  have ha := atoi_dig l h0 hd
  by_cases h : decV l < 9223372036854775808
  · rw [if_pos h] at ha
    refine (Tryd.strconv_Atoi_ok (bs l) (by show l.length ≤ _; omega) _ ha w).mono ?_
    rintro e w' ⟨rfl, hw⟩
    refine ⟨by rw [if_pos h], ?_⟩
    rcases hw with rfl | ⟨t, rfl⟩
    · exact Mod.refl _ _
    · exact Below.mod (Lib.bytesWorld_below _ _ _)
  · rw [if_neg h] at ha
    obtain ⟨tp, p, hv⟩ := hL.err
    refine (Tryd.strconv_Atoi_range_var (bs l) (by show l.length ≤ _; omega) ha tp p w hv).mono ?_
    rintro e w' ⟨N, rfl, _, _, hb⟩
    exact ⟨by rw [if_neg h]; exact ⟨_, _, _, rfl⟩, Below.mod hb⟩

theorem numR_no {l : List UInt8} (h : numB l = false) : numR l = (0, 6) := by simp [numR, h]
theorem numR_far {l : List UInt8} (h : numB l = true) (h2 : 1000000000 < decV l) : numR l = (0, 3) := by simp [numR, h, h2]
theorem numR_ok {l : List UInt8} (h : numB l = true) (h2 : ¬ 1000000000 < decV l) : numR l = (((decV l : Nat) : Int), 0) := by unfold numR; rw [if_pos h, if_neg h2]
theorem ret2 {a b c d : Int} (h : a = c) (h2 : b = d) : Ending.returned (.tuple #[.int .i64 a, .int .i64 b]) = .returned (.tuple #[.int .i64 c, .int .i64 d]) := by rw [h, h2]

set_option maxRecDepth 100000 in
set_option maxHeartbeats 4000000 in
theorem number_any (l : List UInt8) (w : World) (hl : l.length ≤ 1000000) (hL : LaidN w) :
    Calls Tryd.prog 18 #[.string (bs l)] w fun e w' => e = .returned (.tuple #[.int .i64 (numR l).1, .int .i64 (numR l).2]) ∧ Mod NoB w w' := by
  have ht := trimw_any l w (by omega)
  obtain ⟨r1, r2, hr⟩ : ∃ r1 r2, numR l = (r1, r2) := ⟨_, _, rfl⟩
  rw [hr]
  replace hr := hide hr
  show Calls _ _ _ _ fun e w' => e = .returned (.tuple #[.int .i64 r1, .int .i64 r2]) ∧ Mod NoB w w'
  by_cases h0 : l = []
  · subst h0
    clear ht
    have hr2 : Hid (((0 : Int), (6 : Int)) = (r1, r2)) := hide hr.out
    go_enter Tryd.func18, Tryd.ntmps18
    go_wp2
    go_ret2
    cases hr2.out
    exact ⟨rfl, Mod.refl _ _⟩
  · have hne : l.isEmpty = false := by simpa using h0
    have hlen : 0 < l.length := by cases l <;> simp_all
    cases hd : l.all isDig with
    | false =>
      have hte : (Lib.trimS l digits10).isEmpty = false := by
        rw [List.isEmpty_eq_false_iff]
        intro h
        rw [(trim_dig l).1 h] at hd
        cases hd
      have hr2 : Hid (((0 : Int), (6 : Int)) = (r1, r2)) := hide (by rw [← hr.out]; exact (numR_no (by simp [numB, hd])).symm)
      generalize Lib.trimS l digits10 = t at ht hte
      replace ht := hide ht
      clear hd h0
      go_enter Tryd.func18, Tryd.ntmps18
      go_wp2_with fail
      refine ht.out.mono ?_
      rintro e w1 ⟨rfl, hm⟩
      replace hm := hide hm
      go_wp2
      go_ret2
      cases hr2.out
      exact ⟨rfl, hm.out⟩
    | true =>
      have hte := (trim_dig l).2 hd
      rw [hte] at ht
      replace ht := hide ht
      have hat := fun w' (h : Mod NoB w w') => atoiw_any l w' hl h0 hd (hL.mod h)
      replace hat := hide hat
      obtain ⟨b, hb⟩ : ∃ b, l[0]? = some b := ⟨l[0], by simp [hlen]⟩
      have hbi : ∀ h : 0 < (bs l).size, (bs l)[0]'h = b := fun h => (List.getElem?_eq_some_iff.mp hb).2
      have hhd : l.head? = some b := by rw [← hb]; cases l <;> rfl
      have hnb : numB l = !(decide (1 < l.length) && decide (b = 48)) := by
        unfold numB
        rw [hne, hd, hhd]
        simp
      clear hte
      replace hnb := hide hnb
      replace hhd := hide hhd
      clear hb
      by_cases h1 : 1 < l.length
      · by_cases h48 : b = 48
        · have hr2 : Hid (((0 : Int), (6 : Int)) = (r1, r2)) := hide (by rw [← hr.out]; exact (numR_no (by rw [hnb.out]; simp [h1, h48])).symm)
          subst h48
          have h48 : ((UInt8.toNat 48 : Nat) : Int) = 48 := rfl
          clear hat h0 hd
          go_enter Tryd.func18, Tryd.ntmps18
          go_wp2_with fail
          refine ht.out.mono ?_
          rintro e w1 ⟨rfl, hm⟩
          replace hm := hide hm
          go_wp2
          go_ret2
          cases hr2.out
          exact ⟨rfl, hm.out⟩
        · have h48b : ((b.toNat : Int) == 48) = false := by
            simp
            intro e
            exact h48 (UInt8.toNat_inj.mp (by show b.toNat = 48; omega))
          have hnt : numB l = true := by rw [hnb.out]; simp [h48]
          have hok : Hid (¬ 1000000000 < decV l → (((decV l : Nat) : Int), (0 : Int)) = (r1, r2)) := hide fun h => by rw [← hr.out]; exact (numR_ok hnt h).symm
          have hfar : Hid (1000000000 < decV l → ((0 : Int), (3 : Int)) = (r1, r2)) := hide fun h => by rw [← hr.out]; exact (numR_far hnt h).symm
          clear hnt h0 hd
          go_enter Tryd.func18, Tryd.ntmps18
          go_wp2_with fail
          refine ht.out.mono ?_
          rintro e w1 ⟨rfl, hm⟩
          replace hm := hide hm
          go_wp2_with fail
          refine (hat.out _ hm.out).mono ?_
          rintro e w2 ⟨ho, hm2⟩
          replace hm := hide (hm.out.trans hm2)
          clear hm2 hat ht
          generalize decV l = v at ho hok hfar
          by_cases hv : v < 9223372036854775808
          · rw [if_pos hv] at ho
            subst ho
            by_cases hv9 : 1000000000 < v
            · go_wp2
              go_ret2
              cases hfar.out hv9
              exact ⟨rfl, hm.out⟩
            · go_wp2
              go_ret2
              cases hok.out hv9
              exact ⟨rfl, hm.out⟩
          · rw [if_neg hv] at ho
            obtain ⟨x, t, p, rfl⟩ := ho
            have hv9 : 1000000000 < v := by omega
            go_wp2
            go_ret2
            cases hfar.out hv9
            exact ⟨rfl, hm.out⟩
      · have hlt : ¬ ((1 : Int) < (l.length : Int)) := by omega
        have hnt : numB l = true := by rw [hnb.out]; simp [h1]
        have hok : Hid (¬ 1000000000 < decV l → (((decV l : Nat) : Int), (0 : Int)) = (r1, r2)) := hide fun h => by rw [← hr.out]; exact (numR_ok hnt h).symm
        have hfar : Hid (1000000000 < decV l → ((0 : Int), (3 : Int)) = (r1, r2)) := hide fun h => by rw [← hr.out]; exact (numR_far hnt h).symm
        clear hnt h0 hd
        go_enter Tryd.func18, Tryd.ntmps18
        go_wp2_with fail
        refine ht.out.mono ?_
        rintro e w1 ⟨rfl, hm⟩
        replace hm := hide hm
        go_wp2_with fail
        refine (hat.out _ hm.out).mono ?_
        rintro e w2 ⟨ho, hm2⟩
        replace hm := hide (hm.out.trans hm2)
        clear hm2 hat ht
        generalize decV l = v at ho hok hfar
        by_cases hv : v < 9223372036854775808
        · rw [if_pos hv] at ho
          subst ho
          by_cases hv9 : 1000000000 < v
          · go_wp2
            go_ret2
            cases hfar.out hv9
            exact ⟨rfl, hm.out⟩
          · go_wp2
            go_ret2
            cases hok.out hv9
            exact ⟨rfl, hm.out⟩
        · rw [if_neg hv] at ho
          obtain ⟨x, t, p, rfl⟩ := ho
          have hv9 : 1000000000 < v := by omega
          go_wp2
          go_ret2
          cases hfar.out hv9
          exact ⟨rfl, hm.out⟩

/-- A number that has stopped growing past the greatest one. -/
def NSat (d : Nat) (n : Int) : Prop := (d ≤ 1000000000 ∧ n = d) ∨ (1000000000 < d ∧ 1000000000 < n ∧ n ≤ 10000000009)
theorem NSat.step {d : Nat} {n : Int} (h : NSat d n) (hn : n ≤ 1000000000) (k : Nat) (hk : k ≤ 9) : NSat (10 * d + k) (10 * n + k) := by
  rcases h with ⟨h1, h2⟩ | ⟨h1, h2, h3⟩
  · subst h2
    by_cases h : 10 * d + k ≤ 1000000000
    · exact Or.inl ⟨h, by omega⟩
    · exact Or.inr ⟨by omega, by omega, by omega⟩
  · omega
theorem NSat.stay {d : Nat} {n : Int} (h : NSat d n) (hn : ¬ n ≤ 1000000000) (k : Nat) : NSat (10 * d + k) n := by
  rcases h with ⟨h1, h2⟩ | ⟨h1, h2, h3⟩
  · omega
  · exact Or.inr ⟨by omega, h2, h3⟩
theorem decV_snoc {l : List UInt8} {i : Nat} {b : UInt8} (h : l[i]? = some b) : decV (l.take (i + 1)) = 10 * decV (l.take i) + (b.toNat - 48) := by
  rw [List.take_add_one, h]
  exact decFromV_app _ _ _

set_option maxRecDepth 100000 in
set_option maxHeartbeats 4000000 in
theorem rnumber_any (l : List UInt8) (w : World) (hl : l.length ≤ 1000000) :
    Calls Tryd.prog 19 #[.string (bs l)] w fun e w' => e = .returned (.tuple #[.int .i64 (numR l).1, .int .i64 (numR l).2]) ∧ Mod NoB w w' := by
  obtain ⟨r1, r2, hr⟩ : ∃ r1 r2, numR l = (r1, r2) := ⟨_, _, rfl⟩
  rw [hr]
  replace hr := hide hr
  show Calls _ _ _ _ fun e w' => e = .returned (.tuple #[.int .i64 r1, .int .i64 r2]) ∧ Mod NoB w w'
  by_cases h0 : l = []
  · subst h0
    have hr2 : Hid (((0 : Int), (6 : Int)) = (r1, r2)) := hide hr.out
    go_enter Tryd.func19, Tryd.ntmps19
    go_wp2
    go_ret2
    cases hr2.out
    exact ⟨rfl, Mod.refl _ _⟩
  · have hne : l.isEmpty = false := by simpa using h0
    have hlen : 0 < l.length := by cases l <;> simp_all
    clear h0
    go_enter Tryd.func19, Tryd.ntmps19
    go_wp2_with fail
    go_loop [4, 5] (fun vn vi => ∃ (i : Nat) (n : Int), i ≤ l.length ∧ vi = .int .i64 i ∧ vn = .int .i64 n ∧ 0 ≤ n ∧ n ≤ 10000000009 ∧ (l.take i).all isDig = true ∧ NSat (decV (l.take i)) n) (fun _ vi => l.length - (intOf vi).toNat)
    case atStart => exact ⟨0, 0, by omega, rfl, rfl, by omega, by omega, rfl, Or.inl ⟨by simp [decV, decFromV], rfl⟩⟩
    case round =>
      obtain ⟨i, n, hi, rfl, rfl, hn0, hn9, hall, hs⟩ := hrel
      replace hall := hide hall
      replace hs := hide hs
      by_cases hlt : i < l.length
      · obtain ⟨b, hb⟩ : ∃ b, l[i]? = some b := ⟨l[i], by simp [hlt]⟩
        have hbi : ∀ h : i < (bs l).size, (bs l)[i]'h = b := fun h => (List.getElem?_eq_some_iff.mp hb).2
        have hsn := hide (decV_snoc hb)
        have hal : (l.take (i + 1)).all isDig = isDig b := by rw [List.take_add_one, hb]; simp [List.all_append, hall.out]
        have hbad : isDig b = false → numB l = false := fun h => by
          have := all_false hb h
          simp [numB, this]
        have hdg : isDig b = (decide (48 ≤ b.toNat) && decide (b.toNat ≤ 57)) := rfl
        have hbn : (b.toNat : Int) < 256 := by have := b.toNat_lt; omega
        by_cases h48 : (b.toNat : Int) < 48
        · have hr2 : Hid (((0 : Int), (6 : Int)) = (r1, r2)) := hide (by rw [← hr.out]; exact (numR_no (hbad (by rw [hdg]; simp; omega))).symm)
          clear hb hal hbad hdg
          go_wp2
          go_ret2
          cases hr2.out
          exact ⟨rfl, Mod.refl _ _⟩
        · by_cases h57 : (57 : Int) < b.toNat
          · have hr2 : Hid (((0 : Int), (6 : Int)) = (r1, r2)) := hide (by rw [← hr.out]; exact (numR_no (hbad (by rw [hdg]; simp; omega))).symm)
            clear hb hal hbad hdg
            go_wp2
            go_ret2
            cases hr2.out
            exact ⟨rfl, Mod.refl _ _⟩
          · have hdt : isDig b = true := by rw [hdg]; simp; omega
            rw [hdt] at hal
            replace hal := hide hal
            clear hb hbad hdg hdt
            by_cases hn : n ≤ 1000000000
            · go_wp2
              go_round
              case rel =>
                refine ⟨i + 1, 10 * n + ((b.toNat - 48 : Nat) : Int), by omega, by go_num, ?_, by omega, by omega, hal.out, by rw [hsn.out]; exact hs.out.step hn _ (by omega)⟩
                congr 1
                omega
              case measure => simp [intOf]; omega
            · go_wp2
              go_round
              case rel => exact ⟨i + 1, n, by omega, by go_num, rfl, by omega, by omega, hal.out, by rw [hsn.out]; exact hs.out.stay hn _⟩
              case measure => simp [intOf]; omega
      · obtain rfl : i = l.length := by omega
        have hal := hall.out
        have hv := hs.out
        rw [List.take_length] at hal hv
        obtain ⟨b, hb⟩ : ∃ b, l[0]? = some b := ⟨l[0], by simp [hlen]⟩
        have hbi : ∀ h : 0 < (bs l).size, (bs l)[0]'h = b := fun h => (List.getElem?_eq_some_iff.mp hb).2
        have hhd : l.head? = some b := by rw [← hb]; cases l <;> rfl
        have hnb : numB l = !(decide (1 < l.length) && decide (b = 48)) := by
          unfold numB
          rw [hne, hal, hhd]
          simp
        have hfin : numB l = true → (1000000000 < n → ((0 : Int), (3 : Int)) = (r1, r2)) ∧ (¬ 1000000000 < n → (n, (0 : Int)) = (r1, r2)) := fun h => by
          rw [← hr.out]
          rcases hv with ⟨a1, a2⟩ | ⟨a1, a2, a3⟩
          · subst a2
            exact ⟨fun h' => by omega, fun _ => (numR_ok h (by omega)).symm⟩
          · exact ⟨fun _ => (numR_far h (by omega)).symm, fun h' => absurd a2 h'⟩
        replace hhd := hide hhd
        replace hnb := hide hnb
        clear hb hal hv
        by_cases h48 : b = 48
        · subst h48
          have h48b : ((UInt8.toNat 48 : Nat) : Int) = 48 := rfl
          by_cases h1 : 1 < l.length
          · have hr2 : Hid (((0 : Int), (6 : Int)) = (r1, r2)) := hide (by rw [← hr.out]; exact (numR_no (by rw [hnb.out]; simp [h1])).symm)
            clear hfin
            go_wp2
            go_ret2
            cases hr2.out
            exact ⟨rfl, Mod.refl _ _⟩
          · have hfin := hide (hfin (by rw [hnb.out]; simp [h1]))
            by_cases hn : 1000000000 < n
            · go_wp2
              go_ret2
              cases hfin.out.1 hn
              exact ⟨rfl, Mod.refl _ _⟩
            · go_wp2
              go_ret2
              cases hfin.out.2 hn
              exact ⟨rfl, Mod.refl _ _⟩
        · have h48b : ((b.toNat : Int) == 48) = false := by
            simp
            intro e
            exact h48 (UInt8.toNat_inj.mp (by show b.toNat = 48; omega))
          have hfin := hide (hfin (by rw [hnb.out]; simp [h48]))
          by_cases hn : 1000000000 < n
          · go_wp2
            go_ret2
            cases hfin.out.1 hn
            exact ⟨rfl, Mod.refl _ _⟩
          · go_wp2
            go_ret2
            cases hfin.out.2 hn
            exact ⟨rfl, Mod.refl _ _⟩
end Go.Proofs.YthbaoocnnfnhnaaDoor
