/- bits.Div64 at the two divisors that the program has, and where the high word is 0; sat.MulDiv (contracts). sat.MulDiv (contract). Package stamp: halves, From, Diff (contracts). Package backoff, function by function: what each call answers and what becomes of the object (contracts). A server that is asked again and again: plain Lean. A store of samples, votes: plain Lean. -/
import Derived.Test.YtpjfiplejhbdfaaGreatDoorPUaa
import Derived.Test.YtpjfiplejhbdfaaGreatDoorPUab
import Derived.Laws.BitsAllLaws
namespace Go.Proofs.YtpjfiplejhbdfaaGreatDoor
open Go.RowKit


set_option maxRecDepth 100000 in
theorem div_low (lo y q r : Nat) (h1 : lo < 18446744073709551616) (h0 : 0 < y) (hq : lo / y = q) (hr : lo % y = r) (w : World) :
    Calls Tryz.prog 100 #[.int .u64 0, .int .u64 lo, .int .u64 y] w fun e w' => e = .returned (.tuple #[.int .u64 (q : Int), .int .u64 (r : Int)]) ∧ Mod NoB w w' := by
  have e1 : Int.tdiv (lo : Int) (y : Int) = (q : Int) := by rw [Int.tdiv_eq_ediv_of_nonneg (by omega), ← hq]; rfl
  have e2 : Int.tmod (lo : Int) (y : Int) = (r : Int) := by rw [Int.tmod_eq_emod_of_nonneg (by omega), ← hr]; rfl
  have hq2 : q < 18446744073709551616 := by
    have := Nat.div_le_self lo y
    omega
  have e3 : IntKind.u64.wrap (q : Int) = q := by rw [IntKind.wrap_u64]; omega
  have e4 : (lo : Int) / (y : Int) = (q : Int) := by rw [← hq]; rfl
  have e5 : (lo : Int) % (y : Int) = (r : Int) := by rw [← hr]; rfl
  clear hq hr h1 hq2
  go_enter Tryz.func100, Tryz.ntmps100
  go_wp2_with fail
  go_region_with ((fail))
  all_goals
    go_wp2_with fail
    go_simp
    go_ret2
    exact ⟨rfl, (Mod.refl _ _).drew⟩
theorem lz_mil (w : World) : Calls Tryz.prog 129 #[.int .u64 1000000] w fun e w' => e = .returned (.int .i64 44) ∧ w' = w := by
  refine (Tryz.bits_LeadingZeros64 1000000 w (by decide) (by decide)).mono ?_
  rintro e w' ⟨rfl, rfl⟩
  refine ⟨int_ret ?_, rfl⟩
  rw [show Lib.bitLen (Int.toNat 1000000) = 20 by decide +kernel]
  decide
theorem lz_p32 (w : World) : Calls Tryz.prog 129 #[.int .u64 4294967296] w fun e w' => e = .returned (.int .i64 31) ∧ w' = w := by
  refine (Tryz.bits_LeadingZeros64 4294967296 w (by decide) (by decide)).mono ?_
  rintro e w' ⟨rfl, rfl⟩
  refine ⟨int_ret ?_, rfl⟩
  rw [show Lib.bitLen (Int.toNat 4294967296) = 33 by decide +kernel]
  decide
theorem or_sum {a b A : Int} (k : Nat) (hA : A = ((2 ^ k : Nat) : Int)) (ha : 0 < a) (ha2 : a * A < 18446744073709551616) (hb : 0 ≤ b) (hb2 : b < A) : bits BinOp.or .u64 (a * A) b = a * A + b := by
  obtain ⟨x, rfl⟩ := Int.eq_ofNat_of_zero_le (Int.le_of_lt ha)
  obtain ⟨y, rfl⟩ := Int.eq_ofNat_of_zero_le hb
  subst hA
  have h1 : x * 2 ^ k < 18446744073709551616 := by rw [← Int.natCast_mul] at ha2; omega
  have h2 : y < 2 ^ k := by omega
  have h3 : 1 * 2 ^ k ≤ x * 2 ^ k := Nat.mul_le_mul_right _ (by omega)
  have h := u64_or_nat (x * 2 ^ k) y h1 (by omega)
  rw [Nat.mul_comm x, ← Nat.two_pow_add_eq_or_of_lt h2, Nat.mul_comm] at h
  rw [← Int.natCast_mul, h]
  omega
theorem mask_lo {a : Int} (ha : 0 ≤ a) (ha2 : a < 18446744073709551616) : bits BinOp.and .u64 a 4294967295 = a % 4294967296 := by
  obtain ⟨x, rfl⟩ := Int.eq_ofNat_of_zero_le ha
  rw [Mul64.maskN x (by omega)]
  rfl


set_option maxRecDepth 100000 in
theorem div_mil (hi lo : Int) (h1 : 0 ≤ lo) (h2 : lo < 18446744073709551616) (g0 : 0 < hi) (g2 : hi < 1000000) (w : World) :
    Calls Tryz.prog 100 #[.int .u64 hi, .int .u64 lo, .int .u64 1000000] w fun e w' => e = .returned (.tuple #[.int .u64 ((hi * 18446744073709551616 + lo) / 1000000), .int .u64 ((hi * 18446744073709551616 + lo) % 1000000)]) ∧ Mod NoB w w' := by
  have hlz := hide (lz_mil w)
  obtain ⟨u, hu⟩ : ∃ u, hi * 17592186044416 + lo / 1048576 = u := ⟨_, rfl⟩
  obtain ⟨t, ht⟩ : ∃ t, lo % 1048576 * 17592186044416 = t := ⟨_, rfl⟩
  obtain ⟨t1, ht1⟩ : ∃ t1, t / 4294967296 = t1 := ⟨_, rfl⟩
  obtain ⟨t0, ht0⟩ : ∃ t0, t % 4294967296 = t0 := ⟨_, rfl⟩
  obtain ⟨q1, hq1⟩ : ∃ q1, u / 4096000000 = q1 := ⟨_, rfl⟩
  obtain ⟨r1, hr1⟩ : ∃ r1, u % 4096000000 = r1 := ⟨_, rfl⟩
  obtain ⟨v, hv⟩ : ∃ v, r1 * 4294967296 + t1 = v := ⟨_, rfl⟩
  obtain ⟨q0, hq0⟩ : ∃ q0, v / 4096000000 = q0 := ⟨_, rfl⟩
  obtain ⟨r0, hr0⟩ : ∃ r0, v % 4096000000 = r0 := ⟨_, rfl⟩
  have o1 : bits BinOp.and .u64 17592186044416000000 4294967295 = 0 := by decide +kernel
  have o2 : bits BinOp.or .u64 (hi * 17592186044416) (lo / 1048576) = u := by rw [or_sum 44 (by decide) g0 (by omega) (by omega) (by omega), hu]
  have o3 : IntKind.u64.wrap (lo * 17592186044416) = t := by rw [IntKind.wrap_u64]; omega
  have o4 : bits BinOp.and .u64 t 4294967295 = t0 := by rw [mask_lo (by omega) (by omega), ht0]
  have o5 : Int.tdiv u 4096000000 = q1 := by rw [Int.tdiv_eq_ediv_of_nonneg (by omega), hq1]
  have o6 : IntKind.u64.wrap q1 = q1 := by rw [IntKind.wrap_u64]; omega
  have o7 : IntKind.u64.wrap (q1 * 4096000000) = q1 * 4096000000 := by rw [IntKind.wrap_u64]; omega
  have o8 : IntKind.u64.wrap (u - q1 * 4096000000) = r1 := by rw [IntKind.wrap_u64]; omega
  have o9 : IntKind.u64.wrap (r1 * 4294967296) = r1 * 4294967296 := by rw [IntKind.wrap_u64]; omega
  have o9' : IntKind.u64.wrap (4294967296 * r1) = r1 * 4294967296 := by rw [IntKind.wrap_u64]; omega
  have o10 : IntKind.u64.wrap (r1 * 4294967296 + t1) = v := by rw [IntKind.wrap_u64]; omega
  have o11 : IntKind.u64.wrap (IntKind.u64.wrap (IntKind.u64.wrap (u * 4294967296) + t1) - IntKind.u64.wrap (q1 * 17592186044416000000)) = v := by rw [IntKind.wrap_u64, IntKind.wrap_u64, IntKind.wrap_u64, IntKind.wrap_u64]; omega
  have o12 : Int.tdiv v 4096000000 = q0 := by rw [Int.tdiv_eq_ediv_of_nonneg (by omega), hq0]
  have o13 : IntKind.u64.wrap q0 = q0 := by rw [IntKind.wrap_u64]; omega
  have o14 : IntKind.u64.wrap (q0 * 4096000000) = q0 * 4096000000 := by rw [IntKind.wrap_u64]; omega
  have o15 : IntKind.u64.wrap (v - q0 * 4096000000) = r0 := by rw [IntKind.wrap_u64]; omega
  have o16 : IntKind.u64.wrap (4294967296 * r0) = r0 * 4294967296 := by rw [IntKind.wrap_u64]; omega
  have o17 : IntKind.u64.wrap (r0 * 4294967296 + t0) = r0 * 4294967296 + t0 := by rw [IntKind.wrap_u64]; omega
  have o18 : IntKind.u64.wrap (IntKind.u64.wrap (q1 * 4294967296) + q0) = (hi * 18446744073709551616 + lo) / 1000000 := by rw [IntKind.wrap_u64, IntKind.wrap_u64]; omega
  have o19 : IntKind.u64.wrap (IntKind.u64.wrap (IntKind.u64.wrap (v * 4294967296) + t0) - IntKind.u64.wrap (q0 * 17592186044416000000)) / 17592186044416 = (hi * 18446744073709551616 + lo) % 1000000 := by rw [IntKind.wrap_u64, IntKind.wrap_u64, IntKind.wrap_u64, IntKind.wrap_u64]; omega
  have l1 : q1 < 4294967296 := by omega
  have l2 : q0 < 4294967296 := by omega
  have l3 : ¬ (r1 * 4294967296 + t1 < 0) := by omega
  have l4 : ¬ (r0 * 4294967296 + t0 < 0) := by omega
  have l5 : v = v := rfl
  have l6 : 0 ≤ v := by omega
  replace hu := hide hu
  replace ht := hide ht
  replace hv := hide hv
  replace hq1 := hide hq1
  replace hr1 := hide hr1
  replace hq0 := hide hq0
  replace hr0 := hide hr0
  replace ht0 := hide ht0
  generalize (hi * 18446744073709551616 + lo) / 1000000 = Q at o18 ⊢
  generalize (hi * 18446744073709551616 + lo) % 1000000 = R at o19 ⊢
  go_enter Tryz.func100, Tryz.ntmps100
  go_wp2_with fail
  refine hlz.out.mono ?_
  rintro e w' ⟨rfl, rfl⟩
  go_wp2_with fail
  refine wp_loop_rounds 1 ?_
  rw [rounds_succ]
  go_wp2_with fail
  refine wp_loop_rounds 1 ?_
  rw [rounds_succ]
  go_wp2_with fail
  go_ret2
  exact ⟨rfl, Mod.refl _ _⟩


set_option maxRecDepth 100000 in
theorem div_p32 (hi lo : Int) (h1 : 0 ≤ lo) (h2 : lo < 18446744073709551616) (g0 : 0 < hi) (g2 : hi < 4294967296) (w : World) :
    Calls Tryz.prog 100 #[.int .u64 hi, .int .u64 lo, .int .u64 4294967296] w fun e w' => e = .returned (.tuple #[.int .u64 ((hi * 18446744073709551616 + lo) / 4294967296), .int .u64 ((hi * 18446744073709551616 + lo) % 4294967296)]) ∧ Mod NoB w w' := by
  have hlz := hide (lz_p32 w)
  obtain ⟨u, hu⟩ : ∃ u, hi * 2147483648 + lo / 8589934592 = u := ⟨_, rfl⟩
  obtain ⟨t, ht⟩ : ∃ t, lo % 8589934592 * 2147483648 = t := ⟨_, rfl⟩
  obtain ⟨t1, ht1⟩ : ∃ t1, t / 4294967296 = t1 := ⟨_, rfl⟩
  obtain ⟨t0, ht0⟩ : ∃ t0, t % 4294967296 = t0 := ⟨_, rfl⟩
  obtain ⟨q1, hq1⟩ : ∃ q1, u / 2147483648 = q1 := ⟨_, rfl⟩
  obtain ⟨r1, hr1⟩ : ∃ r1, u % 2147483648 = r1 := ⟨_, rfl⟩
  obtain ⟨v, hv⟩ : ∃ v, r1 * 4294967296 + t1 = v := ⟨_, rfl⟩
  obtain ⟨q0, hq0⟩ : ∃ q0, v / 2147483648 = q0 := ⟨_, rfl⟩
  obtain ⟨r0, hr0⟩ : ∃ r0, v % 2147483648 = r0 := ⟨_, rfl⟩
  have o1 : bits BinOp.and .u64 9223372036854775808 4294967295 = 0 := by decide +kernel
  have o2 : bits BinOp.or .u64 (hi * 2147483648) (lo / 8589934592) = u := by rw [or_sum 31 (by decide) g0 (by omega) (by omega) (by omega), hu]
  have o3 : IntKind.u64.wrap (lo * 2147483648) = t := by rw [IntKind.wrap_u64]; omega
  have o4 : bits BinOp.and .u64 t 4294967295 = t0 := by rw [mask_lo (by omega) (by omega), ht0]
  have o5 : Int.tdiv u 2147483648 = q1 := by rw [Int.tdiv_eq_ediv_of_nonneg (by omega), hq1]
  have o6 : IntKind.u64.wrap q1 = q1 := by rw [IntKind.wrap_u64]; omega
  have o7 : IntKind.u64.wrap (q1 * 2147483648) = q1 * 2147483648 := by rw [IntKind.wrap_u64]; omega
  have o8 : IntKind.u64.wrap (u - q1 * 2147483648) = r1 := by rw [IntKind.wrap_u64]; omega
  have o9 : IntKind.u64.wrap (r1 * 4294967296) = r1 * 4294967296 := by rw [IntKind.wrap_u64]; omega
  have o9' : IntKind.u64.wrap (4294967296 * r1) = r1 * 4294967296 := by rw [IntKind.wrap_u64]; omega
  have o10 : IntKind.u64.wrap (r1 * 4294967296 + t1) = v := by rw [IntKind.wrap_u64]; omega
  have o11 : IntKind.u64.wrap (IntKind.u64.wrap (IntKind.u64.wrap (u * 4294967296) + t1) - IntKind.u64.wrap (q1 * 9223372036854775808)) = v := by rw [IntKind.wrap_u64, IntKind.wrap_u64, IntKind.wrap_u64, IntKind.wrap_u64]; omega
  have o12 : Int.tdiv v 2147483648 = q0 := by rw [Int.tdiv_eq_ediv_of_nonneg (by omega), hq0]
  have o13 : IntKind.u64.wrap q0 = q0 := by rw [IntKind.wrap_u64]; omega
  have o14 : IntKind.u64.wrap (q0 * 2147483648) = q0 * 2147483648 := by rw [IntKind.wrap_u64]; omega
  have o15 : IntKind.u64.wrap (v - q0 * 2147483648) = r0 := by rw [IntKind.wrap_u64]; omega
  have o16 : IntKind.u64.wrap (4294967296 * r0) = r0 * 4294967296 := by rw [IntKind.wrap_u64]; omega
  have o17 : IntKind.u64.wrap (r0 * 4294967296 + t0) = r0 * 4294967296 + t0 := by rw [IntKind.wrap_u64]; omega
  have o18 : IntKind.u64.wrap (IntKind.u64.wrap (q1 * 4294967296) + q0) = (hi * 18446744073709551616 + lo) / 4294967296 := by rw [IntKind.wrap_u64, IntKind.wrap_u64]; omega
  have o19 : IntKind.u64.wrap (IntKind.u64.wrap (IntKind.u64.wrap (v * 4294967296) + t0) - IntKind.u64.wrap (q0 * 9223372036854775808)) / 2147483648 = (hi * 18446744073709551616 + lo) % 4294967296 := by rw [IntKind.wrap_u64, IntKind.wrap_u64, IntKind.wrap_u64, IntKind.wrap_u64]; omega
  have l1 : q1 < 4294967296 := by omega
  have l2 : q0 < 4294967296 := by omega
  have l3 : ¬ (r1 * 4294967296 + t1 < 0) := by omega
  have l4 : ¬ (r0 * 4294967296 + t0 < 0) := by omega
  have l5 : v = v := rfl
  have l6 : 0 ≤ v := by omega
  replace hu := hide hu
  replace ht := hide ht
  replace hv := hide hv
  replace hq1 := hide hq1
  replace hr1 := hide hr1
  replace hq0 := hide hq0
  replace hr0 := hide hr0
  replace ht0 := hide ht0
  generalize (hi * 18446744073709551616 + lo) / 4294967296 = Q at o18 ⊢
  generalize (hi * 18446744073709551616 + lo) % 4294967296 = R at o19 ⊢
  go_enter Tryz.func100, Tryz.ntmps100
  go_wp2_with fail
  refine hlz.out.mono ?_
  rintro e w' ⟨rfl, rfl⟩
  go_wp2_with fail
  refine wp_loop_rounds 1 ?_
  rw [rounds_succ]
  go_wp2_with fail
  refine wp_loop_rounds 1 ?_
  rw [rounds_succ]
  go_wp2_with fail
  go_ret2
  exact ⟨rfl, Mod.refl _ _⟩

end Go.Proofs.YtpjfiplejhbdfaaGreatDoor

namespace Go.Proofs.YtpjfiplejhbdfaaGreatDoor
open Go.RowKit

theorem mul_any (x y : Int) (hx : 0 ≤ x) (hx2 : x < 18446744073709551616) (hy : 0 ≤ y) (hy2 : y < 18446744073709551616) (w : World) :
    Calls Tryz.prog 99 #[.int .u64 x, .int .u64 y] w fun e w' => e = .returned (.tuple #[.int .u64 (x * y / 18446744073709551616), .int .u64 (x * y % 18446744073709551616)]) ∧ w' = w := by
  obtain ⟨a, rfl⟩ := Int.eq_ofNat_of_zero_le hx
  obtain ⟨b, rfl⟩ := Int.eq_ofNat_of_zero_le hy
  refine (Tryz.bits_Mul64 a b (by omega) (by omega) w).mono ?_
  rintro e w' ⟨rfl, rfl⟩
  refine ⟨?_, rfl⟩
  rw [Int.natCast_ediv, Int.natCast_emod, Int.natCast_mul]
  rfl
/-- bits.Div64 at a divisor that the program has. -/
def DivC (c : Int) : Prop := ∀ hi lo : Int, 0 ≤ hi → hi < c → 0 ≤ lo → lo < 18446744073709551616 → ∀ w,
  Calls Tryz.prog 100 #[.int .u64 hi, .int .u64 lo, .int .u64 c] w fun e w' => e = .returned (.tuple #[.int .u64 ((hi * 18446744073709551616 + lo) / c), .int .u64 ((hi * 18446744073709551616 + lo) % c)]) ∧ Mod NoB w w'
theorem div0_any (lo c : Int) (h1 : 0 ≤ lo) (h2 : lo < 18446744073709551616) (hc : 0 < c) (w : World) :
    Calls Tryz.prog 100 #[.int .u64 0, .int .u64 lo, .int .u64 c] w fun e w' => e = .returned (.tuple #[.int .u64 (lo / c), .int .u64 (lo % c)]) ∧ Mod NoB w w' := by
  obtain ⟨a, rfl⟩ := Int.eq_ofNat_of_zero_le h1
  obtain ⟨b, rfl⟩ := Int.eq_ofNat_of_zero_le (Int.le_of_lt hc)
  refine (div_low a b _ _ (by omega) (by omega) rfl rfl w).mono ?_
  rintro e w' ⟨rfl, hm⟩
  exact ⟨rfl, hm⟩
theorem divC_mil : DivC 1000000 := by
  intro hi lo h1 h2 h3 h4 w
  by_cases h : hi = 0
  · subst h
    rw [Int.zero_mul, Int.zero_add]
    exact div0_any lo 1000000 h3 h4 (by decide) w
  · exact div_mil hi lo h3 h4 (by omega) h2 w
theorem divC_p32 : DivC 4294967296 := by
  intro hi lo h1 h2 h3 h4 w
  by_cases h : hi = 0
  · subst h
    rw [Int.zero_mul, Int.zero_add]
    exact div0_any lo 4294967296 h3 h4 (by decide) w
  · exact div_p32 hi lo h3 h4 (by omega) h2 w

theorem tup_ret {k : IntKind} {a b : Int} {v : Value} (h : a = b) : Ending.returned (.tuple #[.int k a, v]) = .returned (.tuple #[.int k b, v]) := by rw [h]
theorem over_div {p c : Int} (hc : 0 < c) (h : c ≤ p / 18446744073709551616) : 18446744073709551616 ≤ p / c := by
  rw [Int.le_ediv_iff_mul_le hc]
  have h1 : c * 18446744073709551616 ≤ p := by omega
  omega
theorem under_div {p c : Int} (hc : 0 < c) (h : p / 18446744073709551616 < c) : p / c < 18446744073709551616 := by
  rw [Int.ediv_lt_iff_lt_mul hc]
  omega
theorem muldiv_pos (a b c : Int) (ha0 : 0 ≤ a) (ha : a ≤ 9223372036854775807) (hb0 : 0 ≤ b) (hb : b ≤ 9223372036854775807) (hc0 : 0 < c) (hc : c ≤ 9223372036854775807) (hD : DivC c) (w : World) :
    Calls Tryz.prog 68 #[.int .i64 a, .int .i64 b, .int .i64 c] w fun e w' => e = .returned (.tuple #[.int .i64 (mulDiv a b c), .int .i64 0]) ∧ Mod NoB w w' := by
  have hp0 : 0 ≤ a * b := Int.mul_nonneg ha0 hb0
  have hv : mulDiv a b c = if 9223372036854775807 < a * b / c then 9223372036854775807 else a * b / c := by
    unfold mulDiv clamp64
    rw [Int.fdiv_eq_ediv_of_nonneg _ (by omega)]
    have : 0 ≤ a * b / c := Int.ediv_nonneg hp0 (by omega)
    rw [if_neg (by omega)]
  rw [hv]
  have hm := hide (mul_any a b ha0 (by omega) hb0 (by omega))
  have hend := hide (send_any a ⟨by omega, by omega⟩)
  have hov := hide (over_div (p := a * b) hc0)
  have hun := hide (under_div (p := a * b) hc0)
  have hdd := hide (hD (a * b / 18446744073709551616) (a * b % 18446744073709551616) (by omega))
  have hpq : a * b / 18446744073709551616 * 18446744073709551616 + a * b % 18446744073709551616 = a * b := by omega
  have hq0 : 0 ≤ a * b / c := Int.ediv_nonneg hp0 (by omega)
  rw [hpq] at hdd
  clear hpq hv hD
  generalize a * b = p at *
  have hlo : 0 ≤ p % 18446744073709551616 ∧ p % 18446744073709551616 < 18446744073709551616 := by omega
  have hhi : 0 ≤ p / 18446744073709551616 := by omega
  generalize p / 18446744073709551616 = H at *
  generalize p % 18446744073709551616 = L at *
  generalize p / c = q at *
  generalize p % c = r at *
  clear hp0
  have wa : IntKind.u64.wrap a = a := by rw [IntKind.wrap_u64]; omega
  have wb : IntKind.u64.wrap b = b := by rw [IntKind.wrap_u64]; omega
  have wc : IntKind.u64.wrap c = c := by rw [IntKind.wrap_u64]; omega
  by_cases h : H < c
  · replace hdd := hide (fun w => hdd.out h hlo.1 hlo.2 w)
    have hqq := hun.out h
    go_enter Tryz.func68, Tryz.ntmps68
    go_wp2_with fail
    refine (hm.out _).mono ?_
    rintro e w' ⟨rfl, rfl⟩
    go_wp2_with fail
    refine (hdd.out _).mono ?_
    rintro e w' ⟨rfl, hmm⟩
    go_wp2_with fail
    all_goals
      go_ret2
      refine ⟨tup_ret ?_, hmm⟩
      omega
  · have hge := hov.out (by omega)
    have hcl : c ≤ H := by omega
    have hn : ¬ a < 0 := by omega
    replace hend := hide (fun w => (if_neg hn : (if a < 0 then (-9223372036854775808 : Int) else 9223372036854775807) = _) ▸ hend.out w)
    go_enter Tryz.func68, Tryz.ntmps68
    go_wp2_with fail
    refine (hm.out _).mono ?_
    rintro e w' ⟨rfl, rfl⟩
    go_wp2_with fail
    refine (hend.out _).mono ?_
    rintro e w' ⟨rfl, rfl⟩
    go_wp2_with fail
    all_goals
      go_ret2
      refine ⟨tup_ret ?_, Mod.refl _ _⟩
      omega
theorem muldiv_neg (a b c : Int) (ha0 : -9223372036854775808 ≤ a) (ha : a < 0) (hb0 : 0 ≤ b) (hb : b ≤ 9223372036854775807) (hc0 : 0 < c) (hc : c ≤ 9223372036854775807) (hD : DivC c) (w : World) :
    Calls Tryz.prog 68 #[.int .i64 a, .int .i64 b, .int .i64 c] w fun e w' => e = .returned (.tuple #[.int .i64 (mulDiv a b c), .int .i64 0]) ∧ Mod NoB w w' := by
  have hp0 : 0 ≤ -a * b := Int.mul_nonneg (by omega) hb0
  have hv : mulDiv a b c = if 9223372036854775808 ≤ -a * b / c then -9223372036854775808 else if -a * b % c = 0 then -(-a * b / c) else -(-a * b / c) - 1 := by
    obtain ⟨n, hn⟩ := Int.eq_ofNat_of_zero_le (show 0 ≤ -a by omega)
    obtain ⟨m, rfl⟩ := Int.eq_ofNat_of_zero_le hb0
    obtain ⟨k, rfl⟩ := Int.eq_ofNat_of_zero_le (Int.le_of_lt hc0)
    obtain rfl : a = -(n : Int) := by omega
    rw [mulDiv_neg (by omega), Int.neg_neg, ← Int.natCast_mul, ← Int.natCast_ediv, ← Int.natCast_emod]
    (repeat' split) <;> omega
  rw [hv]
  have hm := hide (mul_any (-a) b (by omega) (by omega) hb0 (by omega))
  have hend := hide (send_any a ⟨by omega, by omega⟩)
  have hov := hide (over_div (p := -a * b) hc0)
  have hun := hide (under_div (p := -a * b) hc0)
  have hdd := hide (hD (-a * b / 18446744073709551616) (-a * b % 18446744073709551616) (by omega))
  have hpq : -a * b / 18446744073709551616 * 18446744073709551616 + -a * b % 18446744073709551616 = -a * b := by omega
  have hq0 : 0 ≤ -a * b / c := Int.ediv_nonneg hp0 (by omega)
  have hr0 : 0 ≤ -a * b % c := Int.emod_nonneg _ (by omega)
  rw [hpq] at hdd
  clear hpq hv hD
  generalize -a * b = p at *
  have hlo : 0 ≤ p % 18446744073709551616 ∧ p % 18446744073709551616 < 18446744073709551616 := by omega
  have hhi : 0 ≤ p / 18446744073709551616 := by omega
  generalize p / 18446744073709551616 = H at *
  generalize p % 18446744073709551616 = L at *
  generalize p / c = q at *
  generalize p % c = r at *
  clear hp0
  have wa : IntKind.u64.wrap a = a + 18446744073709551616 := by rw [IntKind.wrap_u64]; omega
  have wa2 : IntKind.u64.wrap (-(a + 18446744073709551616)) = -a := by rw [IntKind.wrap_u64]; omega
  have wb : IntKind.u64.wrap b = b := by rw [IntKind.wrap_u64]; omega
  have wc : IntKind.u64.wrap c = c := by rw [IntKind.wrap_u64]; omega
  by_cases h : H < c
  · replace hdd := hide (fun w => hdd.out h hlo.1 hlo.2 w)
    have hqq := hun.out h
    obtain ⟨v, hv⟩ : ∃ v : Int, (if 9223372036854775808 ≤ q then -9223372036854775808 else if r = 0 then -q else -q - 1) = v := ⟨_, rfl⟩
    rw [hv]
    replace hv := hide hv
    go_enter Tryz.func68, Tryz.ntmps68
    go_wp2_with fail
    refine (hm.out _).mono ?_
    rintro e w' ⟨rfl, rfl⟩
    go_wp2_with fail
    refine (hdd.out _).mono ?_
    rintro e w' ⟨rfl, hmm⟩
    go_wp2_with fail
    all_goals
      go_ret2
      have hv := hv.out
      refine ⟨tup_ret ?_, hmm⟩
      rw [← hv]
      (repeat' split) <;> omega
  · have hge := hov.out (by omega)
    have hcl : c ≤ H := by omega
    have hv2 : (if 9223372036854775808 ≤ q then -9223372036854775808 else if r = 0 then -q else -q - 1 : Int) = -9223372036854775808 := if_pos (by omega)
    rw [hv2]
    replace hend := hide (fun w => (if_pos ha : (if a < 0 then (-9223372036854775808 : Int) else 9223372036854775807) = _) ▸ hend.out w)
    clear hv2
    go_enter Tryz.func68, Tryz.ntmps68
    go_wp2_with fail
    refine (hm.out _).mono ?_
    rintro e w' ⟨rfl, rfl⟩
    go_wp2_with fail
    refine (hend.out _).mono ?_
    rintro e w' ⟨rfl, rfl⟩
    go_wp2_with fail
    all_goals
      go_ret2
      exact ⟨rfl, Mod.refl _ _⟩
theorem muldiv_any (a b c : Int) (ha : I64 a) (hb0 : 0 ≤ b) (hb : b ≤ 9223372036854775807) (hc0 : 0 < c) (hc : c ≤ 9223372036854775807) (hD : DivC c) (w : World) :
    Calls Tryz.prog 68 #[.int .i64 a, .int .i64 b, .int .i64 c] w fun e w' => e = .returned (.tuple #[.int .i64 (mulDiv a b c), .int .i64 0]) ∧ Mod NoB w w' := by
  by_cases h : 0 ≤ a
  · exact muldiv_pos a b c h ha.2 hb0 hb hc0 hc hD w
  · exact muldiv_neg a b c ha.1 (by omega) hb0 hb hc0 hc hD w
end Go.Proofs.YtpjfiplejhbdfaaGreatDoor

namespace Go.Proofs.YtpjfiplejhbdfaaGreatDoor
open Go.RowKit

theorem halves_any (s : Int) (h0 : 0 ≤ s) (h1 : s < 18446744073709551616) (w : World) :
    Calls Tryz.prog 209 #[.int .u64 s] w fun e w' => e = .returned (.agg #[.int .u32 (s / 4294967296), .int .u32 (s % 4294967296)]) ∧ Mod NoB w w' := by
  have w1 : IntKind.u32.wrap (s / 4294967296) = s / 4294967296 := by unfold IntKind.wrap; simp [IntKind.bits, IntKind.signed]; omega
  have w2 : IntKind.u32.wrap s = s % 4294967296 := by unfold IntKind.wrap; simp [IntKind.bits, IntKind.signed]
  go_enter Tryz.func209, Tryz.ntmps209
  go_wp2
  exact bodyPost_ret (v := .agg #[.int .u32 (s / 4294967296), .int .u32 (s % 4294967296)]) (by simp [results, Tryz.results209, go_sem]) rfl ⟨rfl, (Mod.refl _ _).alloc _⟩
theorem mulp_any (r : Int) (h0 : 0 ≤ r) (h1 : r < 1000000000) (w : World) :
    Calls Tryz.prog 99 #[.int .u64 r, .int .u64 4294967296] w fun e w' => e = .returned (.tuple #[.int .u64 0, .int .u64 (r * 4294967296)]) ∧ w' = w := by
  have h := mul_any r 4294967296 h0 (by omega) (by decide) (by decide) w
  rw [show r * 4294967296 / 18446744073709551616 = 0 by omega, show r * 4294967296 % 18446744073709551616 = r * 4294967296 by omega] at h
  exact h
theorem from_eq (a : Int) : IntKind.u64.wrap (IntKind.u64.wrap (IntKind.u64.wrap (a / 1000000000) * 4294967296) + a % 1000000000 * 4294967296 / 1000000000) = (fromNs a : Int) := by
  unfold fromNs
  rw [IntKind.wrap_u64, IntKind.wrap_u64, IntKind.wrap_u64, Int.natCast_add, Int.natCast_mul, Int.natCast_ediv, Int.natCast_mul, Int.toNat_of_nonneg (by omega), Int.toNat_of_nonneg (by omega)]
  show _ = a / 1000000000 % 4294967296 * 4294967296 + a % 1000000000 * 4294967296 / 1000000000
  omega
theorem from_any (a : Int) (ha : I64 a) (w : World) :
    Calls Tryz.prog 177 #[.int .i64 a] w fun e w' => e = .returned (.int .u64 (fromNs a : Int)) ∧ Mod NoB w w' := by
  have hfe := from_eq a
  obtain ⟨a1, a2⟩ := ha
  have hr0 : 0 ≤ a % 1000000000 ∧ a % 1000000000 < 1000000000 := by omega
  have hml := hide (mulp_any (a % 1000000000) hr0.1 hr0.2)
  have hdv := hide (div0_any (a % 1000000000 * 4294967296) 1000000000 (by omega) (by omega) (by decide))
  have v1 : IntKind.u64.wrap (a % 1000000000) = a % 1000000000 := by rw [IntKind.wrap_u64]; omega
  have hS : Int.tdiv a 1000000000 = if 0 ≤ a then a / 1000000000 else -((-a) / 1000000000) := by
    split
    · rename_i h
      exact Int.tdiv_eq_ediv_of_nonneg h
    · rw [← Int.tdiv_eq_ediv_of_nonneg (by omega), Int.neg_tdiv, Int.neg_neg]
  obtain ⟨S, hS2⟩ : ∃ S, Int.tdiv a 1000000000 = S := ⟨_, rfl⟩
  have hSv : S = if 0 ≤ a then a / 1000000000 else -((-a) / 1000000000) := hS2.symm.trans hS
  clear hS
  have u1 : wrap64 (S * 1000000000) = S * 1000000000 := by rw [wrap64_eq, wrap_in ⟨by split at hSv <;> omega, by split at hSv <;> omega⟩]
  have uS : wrap64 S = S := by rw [wrap64_eq, wrap_in ⟨by split at hSv <;> omega, by split at hSv <;> omega⟩]
  by_cases h : a - S * 1000000000 < 0
  · have u2 : wrap64 (a - S * 1000000000) = a - S * 1000000000 := by rw [wrap64_eq, wrap_in ⟨by split at hSv <;> omega, by split at hSv <;> omega⟩]
    have u3 : wrap64 (a - S * 1000000000 + 1000000000) = a % 1000000000 := by rw [wrap64_eq, wrap_in ⟨by split at hSv <;> omega, by split at hSv <;> omega⟩]; split at hSv <;> omega
    have u4 : wrap64 (S - 1) = a / 1000000000 := by rw [wrap64_eq, wrap_in ⟨by split at hSv <;> omega, by split at hSv <;> omega⟩]; split at hSv <;> omega
    clear hSv
    generalize a % 1000000000 = r at *
    generalize a / 1000000000 = s at *
    go_enter Tryz.func177, Tryz.ntmps177
    go_wp2_with fail
    refine (hml.out _).mono ?_
    rintro e w' ⟨rfl, rfl⟩
    go_wp2_with fail
    refine (hdv.out _).mono ?_
    rintro e w' ⟨rfl, hm⟩
    go_wp2_with fail
    go_ret
    exact ⟨rfl, hm⟩
  · have f2 : S = a / 1000000000 := by split at hSv <;> omega
    have u2 : wrap64 (a - S * 1000000000) = a % 1000000000 := by rw [wrap64_eq, wrap_in ⟨by split at hSv <;> omega, by split at hSv <;> omega⟩]; omega
    have u3 : ¬ (a % 1000000000 < 0) := by omega
    clear hSv h
    rw [f2] at hS2 u1 u2 uS
    clear f2
    generalize a % 1000000000 = r at *
    generalize a / 1000000000 = s at *
    go_enter Tryz.func177, Tryz.ntmps177
    go_wp2_with fail
    refine (hml.out _).mono ?_
    rintro e w' ⟨rfl, rfl⟩
    go_wp2_with fail
    refine (hdv.out _).mono ?_
    rintro e w' ⟨rfl, hm⟩
    go_wp2_with fail
    go_ret
    exact ⟨rfl, hm⟩
theorem diff_any (a b : Nat) (ha : a < 18446744073709551616) (hb : b < 18446744073709551616) (w : World) :
    Calls Tryz.prog 176 #[.int .u64 a, .int .u64 b] w fun e w' => e = .returned (.int .i64 (diffS a b)) ∧ Mod NoB w w' := by
  have h1 := hide (halves_any a (by omega) (by omega) w)
  have h2 := hide (halves_any b (by omega) (by omega))
  have hd : wrap64 (IntKind.u64.wrap ((a : Int) - b)) = IntKind.i64.wrap ((a : Int) - b) := by
    rw [← wrap64_eq, IntKind.wrap_u64]
    unfold wrap64
    omega
  have hmd := hide (muldiv_any (IntKind.i64.wrap ((a : Int) - b)) 1000000000 4294967296 (wrap_range _) (by decide) (by decide) (by decide) (by decide) divC_p32)
  have hsame : (a : Int) / 4294967296 = (b : Int) / 4294967296 → (a : Int) % 4294967296 = (b : Int) % 4294967296 → diffS a b = 0 := by
    intro x y
    have : a = b := by omega
    rw [this]
    exact diffS_same b
  replace hsame := hide hsame
  have hv : Hid (mulDiv (IntKind.i64.wrap ((a : Int) - b)) 1000000000 4294967296 = diffS a b) := hide rfl
  rw [hv.out] at hmd
  clear hv
  generalize diffS a b = v at *
  generalize IntKind.i64.wrap ((a : Int) - b) = d at *
  go_enter Tryz.func176, Tryz.ntmps176
  go_wp2_with fail
  refine h1.out.mono ?_
  rintro e w1 ⟨rfl, hm⟩
  replace hm := hide hm
  go_wp2_with fail
  refine (h2.out _).mono ?_
  rintro e w2 ⟨rfl, hm2⟩
  replace hm := hide (hm.out.trans hm2)
  clear hm2
  go_wp2_with fail
  all_goals first
    | (refine (hmd.out _).mono ?_
       rintro e w3 ⟨rfl, hm3⟩
       replace hm := hide (hm.out.trans hm3)
       clear hm3
       go_wp2
       go_ret
       exact ⟨rfl, hm.out⟩)
    | (go_ret
       exact ⟨int_ret (hsame.out (by assumption) (by assumption)).symm, hm.out⟩)
end Go.Proofs.YtpjfiplejhbdfaaGreatDoor

namespace Go.Proofs.YtpjfiplejhbdfaaGreatDoor
open Go.RowKit

/-- backoff.Next, in plain numbers. -/
def nextZ (now most : Int) : Int :=
  if now < 0 ∨ most < 0 ∨ now > 1073741824 ∨ most > 1073741824 then 0 else if 2 * now < most then 2 * now else most

/-- Block b holds a backoff. -/
def BO (w : World) (b : Nat) (l m n t : Int) : Prop :=
  w.heap[b]? = some (.cells #[.int .i64 l, .int .i64 m, .int .i64 n, .int .i64 t] 239 (0, 0))


def BkPost (b : Nat) (l m n t v : Int) (w : World) (e : Ending) (w' : World) : Prop :=
  e = .returned (.int .i64 v) ∧ BO w' b l m n t ∧ Mod (· = b) w w'

def NewPost (l m : Int) (w : World) (e : Ending) (w' : World) : Prop :=
  ∃ b, e = .returned (.tuple #[at0 b, .int .i64 0]) ∧ w.heap.size ≤ b ∧ BO w' b l m l 0 ∧ Mod NoB w w'

theorem next_any (a b : Int) (ha : I64 a) (hb : I64 b) (w : World) :
    Calls Tryz.prog 143 #[.int .i64 a, .int .i64 b] w fun e w' => e = .returned (.int .i64 (nextZ a b)) ∧ w = w' := by
  obtain ⟨ha1, ha2⟩ := ha
  obtain ⟨hb1, hb2⟩ := hb
  go_enter Tryz.func143, Tryz.ntmps143
  go_wp2
  all_goals
    go_ret
    refine ⟨int_ret ?_, rfl⟩
    unfold nextZ
    (repeat' split) <;> omega

end Go.Proofs.YtpjfiplejhbdfaaGreatDoor

namespace Go.Proofs.YtpjfiplejhbdfaaGreatDoor

structure SampleS where
  offset : Int
  delay : Int
  at' : Int
  slewed : Int
structure PeerS where
  l : Int
  m : Int
  n : Int
  t : Int
  state : Int
  due : Int
  patience : Int
  sent : Int
  clock : Int
  cookie : Nat
def maxHard : Int := 4611686018427387903
def PeerS.isLate (p : PeerS) (h : Int) : Bool := decide (p.state = 1 ∧ p.sent + p.patience < h)
def PeerS.rest (p : PeerS) (seconds : Int) : PeerS := { p with state := 0, due := p.sent + seconds * 1000000000 }
/-- Late. -/
def PeerS.late (p : PeerS) (h : Int) : PeerS := if p.isLate h then { p with n := nextZ p.n p.m, t := p.t + 1 }.rest (nextZ p.n p.m) else p
/-- Ask: none, where it isn't asked. -/
def PeerS.ask (p : PeerS) (h clock : Int) (cookie : Nat) : Option PeerS :=
  if p.state = 0 ∧ p.due ≤ h ∧ cookie ≠ 0 then some { p with state := 1, sent := h, clock := clock, cookie := cookie } else none
/-- Next. -/
def PeerS.next (p : PeerS) : Int :=
  if p.state = 0 then min p.due maxHard else if p.state = 1 then min (p.sent + p.patience + 1) maxHard else maxHard
/-- Answer, of a packet that was looked at: why it isn't taken, and its two stamps. -/
def PeerS.answer (p : PeerS) (h clock slewed : Int) (why : Int) (recv xmit : Nat) : PeerS × Option SampleS × Int :=
  if p.state = 2 then (p, none, 3) else if p.state = 0 then (p, none, 4)
  else if why = 8 then ({ p with state := 2 }, none, 8) else if why ≠ 0 then (p, none, why) else if p.isLate h then (p, none, 12)
  else ({ p with n := p.l, t := 0 }.rest p.l, some ⟨(makeS p.clock clock recv xmit).1, (makeS p.clock clock recv xmit).2, h, slewed⟩, 0)
/-- What keeps all of it in 64 bits. -/
structure PeerS.Ok (p : PeerS) : Prop where
  s0 : 0 ≤ p.sent
  s1 : p.sent ≤ maxHard
  p0 : 0 ≤ p.patience
  p1 : p.patience ≤ 1000000000000000
  l0 : 0 ≤ p.l
  l1 : p.l ≤ 1073741824
  m0 : 0 ≤ p.m
  m1 : p.m ≤ 1073741824
  n0 : 0 ≤ p.n
  n1 : p.n ≤ 1073741824
  d0 : 0 ≤ p.due
  d1 : p.due ≤ maxHard + 1073741824 * 1000000000
theorem next_range {n m : Int} (h0 : 0 ≤ m) (h1 : m ≤ 1073741824) : 0 ≤ nextZ n m ∧ nextZ n m ≤ 1073741824 := by
  unfold nextZ
  constructor <;> split <;> (try split) <;> omega
theorem PeerS.Ok.rest {p : PeerS} (hp : p.Ok) {s : Int} (h0 : 0 ≤ s) (h1 : s ≤ 1073741824) : (p.rest s).Ok := by
  obtain ⟨a1, a2, a3, a4, a5, a6, a7, a8, a9, a10, a11, a12⟩ := hp
  unfold PeerS.rest
  constructor <;> simp only [] <;> first | assumption | omega
theorem PeerS.Ok.late {p : PeerS} (hp : p.Ok) (h : Int) : (p.late h).Ok := by
  unfold PeerS.late
  split
  · obtain ⟨b1, b2⟩ := next_range (n := p.n) hp.m0 hp.m1
    refine PeerS.Ok.rest ?_ b1 b2
    obtain ⟨a1, a2, a3, a4, a5, a6, a7, a8, a9, a10, a11, a12⟩ := hp
    constructor <;> simp only [] <;> first | assumption | omega
  · exact hp
end Go.Proofs.YtpjfiplejhbdfaaGreatDoor

namespace Go.Proofs.YtpjfiplejhbdfaaGreatDoor

def storeAdd (l : List SampleS) (x : SampleS) : List SampleS := if l.length < 8 then l ++ [x] else l.tail ++ [x]
def freshS (x : SampleS) (h life : Int) : Bool := decide (x.at' ≤ h ∧ satSub h x.at' ≤ life)
def betterS (a b : SampleS) : Bool := if a.delay ≠ b.delay then decide (a.delay < b.delay) else decide (b.at' < a.at')
def pickS : Option SampleS → SampleS → Option SampleS
  | none, x => some x
  | some b, x => if betterS b x then some b else some x
def bestS (l : List SampleS) (h life : Int) : Option SampleS := (l.filter fun x => freshS x h life).foldl pickS none
def nowS (x : SampleS) (slewed : Int) : Int := satSub x.offset (satSub slewed x.slewed)
structure VoteS where
  server : Nat
  sample : SampleS
  offset : Int
def votesS (L : List (List SampleS)) (h life slewed : Int) : List VoteS :=
  L.zipIdx.filterMap fun p => (bestS p.1 h life).map fun x => ⟨p.2, x, nowS x slewed⟩
theorem storeAdd_len {l : List SampleS} (h : l.length ≤ 8) (x : SampleS) : (storeAdd l x).length ≤ 8 := by
  unfold storeAdd
  split <;> simp <;> omega
theorem votes_len (L : List (List SampleS)) (h life slewed : Int) : (votesS L h life slewed).length ≤ L.length := by
  have := List.length_filterMap_le (fun p : List SampleS × Nat => (bestS p.1 h life).map fun x => (⟨p.2, x, nowS x slewed⟩ : VoteS)) L.zipIdx
  simpa [votesS] using this
end Go.Proofs.YtpjfiplejhbdfaaGreatDoor

