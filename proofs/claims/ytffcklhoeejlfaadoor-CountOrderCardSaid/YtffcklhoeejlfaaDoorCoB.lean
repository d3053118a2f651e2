/- Package count: Of, Refused, Same. -/
import Derived.Test.YtffcklhoeejlfaaDoorCoA
import Derived.Test.YtffcklhoeejlfaaDoorKitArr
namespace Go.Proofs.YtffcklhoeejlfaaDoor
open Go.RowKit

theorem run_index_ints (t : TypeId) (ht : Tryd.prog.underlying t = some (.array 13 3)) (c : List Int) (hl : c.length = 13) (k : Nat) (hk : k < 13) (w : World) :
    (Instr.index t (ints c) (.int .i64 k)).run Tryd.prog w = .ok (.int .i64 (c.getD k 0)) w :=
  run_index_arr ht Tryd.underlying3 (by kernel_rfl) _ (by simpa using hl) k _ (by simp [List.getD, hl, hk]) w

theorem run_eql_ints (t : TypeId) (ht : Tryd.prog.underlying t = some (.array 13 3)) (xs ys : List Int) (hx : xs.length = 13) (hy : ys.length = 13) (w : World) :
    (binOp .eql t (ints xs) (ints ys)).run Tryd.prog w = .ok (.bool (decide (xs = ys))) w :=
  run_eql_arr ht Tryd.underlying3 (by kernel_rfl) xs ys hx hy w

/-! ### Of -/
theorem of_out (p : Value) (n : Int) (hn : I64 n) (h : n < 0 ∨ 12 < n) (w : World) :
    Calls Tryd.prog 10 #[p, .int .i64 n] w fun e w' => e = .returned (.int .i64 0) ∧ Mod NoB w w' := by
  have hf : inB n = false := by unfold inB; simp; omega
  clear h
  go_enter Tryd.func10, Tryd.ntmps10
  go_wp2_with fail
  refine (known_any _ hn _).mono ?_
  rintro e w' ⟨rfl, rfl⟩
  go_wp2
  go_ret
  exact ⟨rfl, Mod.refl _ _⟩

theorem of_nil (n : Int) (hn : I64 n) (w : World) :
    Calls Tryd.prog 10 #[.pointer none, .int .i64 n] w fun e w' => e = .returned (.int .i64 0) ∧ Mod NoB w w' := by
  by_cases h : n < 0 ∨ 12 < n
  · exact of_out _ n hn h w
  · obtain ⟨k, rfl⟩ := Int.eq_ofNat_of_zero_le (show 0 ≤ n by omega)
    have ht : inB k = true := by unfold inB; simp; omega
    have hk : k < 13 := by omega
    have hix := run_index_ints 45 Tryd.underlying45 zero13 rfl k hk
    rw [zero13_at] at hix
    clear h
    go_enter Tryd.func10, Tryd.ntmps10
    go_wp2_with fail
    refine (known_any _ hn _).mono ?_
    rintro e w' ⟨rfl, rfl⟩
    go_wp2_with fail
    refine (all_nil _).mono ?_
    rintro e w1 ⟨rfl, hm⟩
    replace hm := hide hm
    go_wp2
    go_ret
    exact ⟨rfl, hm.out⟩

theorem of_any (b k : Nat) (c : List Int) (w : World) (h : CO w b c) (hk : k < 13) :
    Calls Tryd.prog 10 #[at0 b, .int .i64 k] w fun e w' => e = .returned (.int .i64 (c.getD k 0)) ∧ Mod NoB w w' := by
  have ht : inB k = true := by unfold inB; simp; omega
  have hix := run_index_ints 45 Tryd.underlying45 c h.2 k hk
  replace h := hide h
  generalize c.getD k 0 = x at hix ⊢
  go_enter Tryd.func10, Tryd.ntmps10
  go_wp2_with fail
  refine (known_any _ ⟨by omega, by omega⟩ _).mono ?_
  rintro e w' ⟨rfl, rfl⟩
  go_wp2_with fail
  refine (all_any b c _ h.out).mono ?_
  rintro e w1 ⟨rfl, hm⟩
  replace hm := hide hm
  go_wp2
  go_ret
  exact ⟨rfl, hm.out⟩

/-! ### Same -/
theorem same_any (p q : Value) (c d : List Int) (w : World) (hc : c.length = 13) (hd : d.length = 13)
    (hp : ∀ w', Mod NoB w w' → Calls Tryd.prog 18 #[p] w' fun e w'' => e = .returned (ints c) ∧ Mod NoB w' w'')
    (hq : ∀ w', Mod NoB w w' → Calls Tryd.prog 18 #[q] w' fun e w'' => e = .returned (ints d) ∧ Mod NoB w' w'') :
    Calls Tryd.prog 16 #[p, q] w fun e w' => e = .returned (.bool (decide (c = d))) ∧ Mod NoB w w' := by
  have hix := run_eql_ints 45 Tryd.underlying45 c d hc hd
  generalize decide (c = d) = x at hix ⊢
  replace hp := hide hp
  replace hq := hide hq
  go_enter Tryd.func16, Tryd.ntmps16
  go_wp2_with fail
  refine (hp.out _ (Mod.refl _ _)).mono ?_
  rintro e w1 ⟨rfl, hm⟩
  replace hm := hide hm
  go_wp2_with fail
  refine (hq.out _ hm.out).mono ?_
  rintro e w2 ⟨rfl, hm2⟩
  replace hm2 := hide hm2
  go_wp2
  go_ret
  exact ⟨rfl, hm.out.trans hm2.out⟩

/-! ### Refused -/
/-- The sum of what isn't the first. -/
def sumTo (c : List Int) : Nat → Int
  | 0 => 0
  | k + 1 => sumTo c k + if k = 0 then 0 else c.getD k 0

theorem sumTo_in (c : List Int) (hc : ∀ k, 0 ≤ c.getD k 0 ∧ c.getD k 0 ≤ 9007199254740992) (k : Nat) : 0 ≤ sumTo c k ∧ sumTo c k ≤ 9007199254740992 * k := by
  induction k with
  | zero => simp [sumTo]
  | succ k ih =>
    have := hc k
    simp only [sumTo]
    split <;> omega

theorem refused_of (p : Value) (c : List Int) (hl : c.length = 13) (hc : ∀ k, 0 ≤ c.getD k 0 ∧ c.getD k 0 ≤ 9007199254740992) (w : World)
    (hp : Calls Tryd.prog 18 #[p] w fun e w'' => e = .returned (ints c) ∧ Mod NoB w w'') :
    Calls Tryd.prog 11 #[p] w fun e w' => e = .returned (.int .i64 (sumTo c 13)) ∧ Mod NoB w w' := by
  replace hp := hide hp
  go_enter Tryd.func11, Tryd.ntmps11
  go_wp2_with fail
  refine hp.out.mono ?_
  rintro e w1 ⟨rfl, hm⟩
  replace hm := hide hm
  go_wp2_with fail
  go_loop [3, 8] (fun s i => ∃ k : Nat, k ≤ 13 ∧ i = .int .i64 k ∧ s = .int .i64 (sumTo c k)) (fun _ i => 13 - (intOf i).toNat)
  case atStart => exact ⟨0, by omega, rfl, rfl⟩
  case round =>
    obtain ⟨k, hk, rfl, rfl⟩ := hrel
    have hs := sumTo_in c hc k
    obtain ⟨hs1, hs2⟩ := hs
    by_cases hlt : k < 13
    · have hix := run_index_ints 45 Tryd.underlying45 c hl k hlt
      obtain ⟨x1, x2⟩ := hc k
      have hnx : Hid (sumTo c (k + 1) = sumTo c k + if k = 0 then 0 else c.getD k 0) := hide rfl
      replace hl := hide hl
      generalize c.getD k 0 = x at hix x1 x2 hnx
      by_cases h0 : k = 0
      · subst h0
        have hix : ∀ w, (Instr.index 45 (ints c) (.int .i64 0)).run Tryd.prog w = .ok (.int .i64 x) w := hix
        go_wp2
        go_round
        case rel => exact ⟨1, by omega, by go_num, by rw [hnx.out]; simp⟩
        case measure => simp [intOf]
      · go_wp2
        go_round
        case rel => exact ⟨k + 1, by omega, by go_num, by rw [hnx.out, if_neg h0]⟩
        case measure => simp [intOf]; omega
    · obtain rfl : k = 13 := by omega
      go_wp2
      go_ret
      exact ⟨rfl, hm.out⟩

end Go.Proofs.YtffcklhoeejlfaaDoor
