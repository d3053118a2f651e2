/- Package backoff: New, and the methods, as contracts on the block that holds the object. -/
import Derived.Test.YtlcnahnondgofaaBkA
namespace Go.Proofs.Ytlcnahnondgofaa
open Go.RowKit

theorem within_any (n : Int) (hn : I64 n) (w : World) :
    Calls Try.prog 17 #[.int .i64 n] w fun e w' => e = .returned (.bool (decide (4 ≤ n) && decide (n ≤ 1024))) ∧ w = w' := by
  obtain ⟨h1, h2⟩ := hn
  go_enter Try.func17, Try.ntmps17
  go_wp2
  all_goals
    go_ret
    refine ⟨?_, rfl⟩
    congr 2
    simp
    try omega

theorem rnew_any (l m : Int) (hl : I64 l) (hm : I64 m) (w : World) :
    Calls Try.prog 12 #[.int .i64 l, .int .i64 m] w fun e w' =>
      e = .returned (.int .i64 (if l < 4 ∨ 1024 < l ∨ m < 4 ∨ 1024 < m then 3 else if m < l then 8 else 0)) ∧ w = w' := by
  obtain ⟨ha1, ha2⟩ := hl
  obtain ⟨hb1, hb2⟩ := hm
  go_enter Try.func12, Try.ntmps12
  go_wp2
  all_goals
    go_ret
    refine ⟨int_ret ?_, rfl⟩
    (repeat' split) <;> omega

theorem new_range (l m : Int) (hl : I64 l) (hm : I64 m) (h : l < 4 ∨ 1024 < l ∨ m < 4 ∨ 1024 < m) (w : World) :
    Calls Try.prog 11 #[.int .i64 l, .int .i64 m] w fun e w' =>
      e = .returned (.tuple #[.pointer none, .int .i64 3]) ∧ w = w' := by
  by_cases h1 : (decide (4 ≤ l) && decide (l ≤ 1024)) = true
  · have h2 : (decide (4 ≤ m) && decide (m ≤ 1024)) = false := by simp at h1 ⊢; omega
    go_enter Try.func11, Try.ntmps11
    go_wp2_with (go_at_call 17; refine (within_any _ (by assumption) _).mono ?_; rintro e w' ⟨rfl, rfl⟩)
    go_ret2
    exact ⟨rfl, rfl⟩
  · have h2 : (decide (4 ≤ l) && decide (l ≤ 1024)) = false := by simpa using h1
    clear h1
    go_enter Try.func11, Try.ntmps11
    go_wp2_with (go_at_call 17; refine (within_any _ (by assumption) _).mono ?_; rintro e w' ⟨rfl, rfl⟩)
    go_ret2
    exact ⟨rfl, rfl⟩

theorem new_order (l m : Int) (hl : I64 l) (hm : I64 m) (h1 : (decide (4 ≤ l) && decide (l ≤ 1024)) = true) (h2 : (decide (4 ≤ m) && decide (m ≤ 1024)) = true) (h : m < l) (w : World) :
    Calls Try.prog 11 #[.int .i64 l, .int .i64 m] w fun e w' =>
      e = .returned (.tuple #[.pointer none, .int .i64 8]) ∧ w = w' := by
  go_enter Try.func11, Try.ntmps11
  go_wp2_with (go_at_call 17; refine (within_any _ (by assumption) _).mono ?_; rintro e w' ⟨rfl, rfl⟩)
  go_ret2
  exact ⟨rfl, rfl⟩

theorem new_ok (l m : Int) (hl : I64 l) (hm : I64 m) (h1 : (decide (4 ≤ l) && decide (l ≤ 1024)) = true) (h2 : (decide (4 ≤ m) && decide (m ≤ 1024)) = true) (h : l ≤ m) (w : World) :
    Calls Try.prog 11 #[.int .i64 l, .int .i64 m] w (NewPost l m w) := by
  go_enter Try.func11, Try.ntmps11
  go_wp2_with (go_at_call 17; refine (within_any _ (by assumption) _).mono ?_; rintro e w' ⟨rfl, rfl⟩)
  go_ret2
  exact ⟨w.heap.size, rfl, Nat.le_refl _, heap_alloc_new w _, (Mod.refl _ _).alloc _⟩

/-! ### the methods of a nil one -/
theorem now_nil (w : World) : Calls Try.prog 13 #[.pointer none] w fun e w' => e = .returned (.int .i64 0) ∧ w = w' := by
  go_enter Try.func13, Try.ntmps13
  go_wp2
  go_ret
  exact ⟨rfl, rfl⟩

theorem times_nil (w : World) : Calls Try.prog 16 #[.pointer none] w fun e w' => e = .returned (.int .i64 0) ∧ w = w' := by
  go_enter Try.func16, Try.ntmps16
  go_wp2
  go_ret
  exact ⟨rfl, rfl⟩

theorem set_nil (f : Value) (w : World) : Calls Try.prog 18 #[.pointer none, f] w fun e w' => e = .returned (.int .i64 0) ∧ w = w' := by
  go_enter Try.func18, Try.ntmps18
  go_wp2
  go_ret
  exact ⟨rfl, rfl⟩

theorem fail_nil (w : World) : Calls Try.prog 14 #[.pointer none] w fun e w' => e = .returned (.int .i64 0) ∧ Mod NoB w w' := by
  have hmf : ∀ (fn : Fn) (first cap : Array Value) (w : World), (Instr.makeFunc fn first cap).run Try.prog w = .ok (.func fn first cap) w := fun _ _ _ _ => rfl
  go_enter Try.func14, Try.ntmps14
  go_wp2_with (go_at_call 18; refine (set_nil _ _).mono ?_; rintro e w' ⟨rfl, rfl⟩)
  go_ret
  exact ⟨rfl, (Mod.refl _ _).alloc _⟩

theorem good_nil (w : World) : Calls Try.prog 15 #[.pointer none] w fun e w' => e = .returned (.int .i64 0) ∧ Mod NoB w w' := by
  have hmf : ∀ (fn : Fn) (first cap : Array Value) (w : World), (Instr.makeFunc fn first cap).run Try.prog w = .ok (.func fn first cap) w := fun _ _ _ _ => rfl
  go_enter Try.func15, Try.ntmps15
  go_wp2_with (go_at_call 18; refine (set_nil _ _).mono ?_; rintro e w' ⟨rfl, rfl⟩)
  go_ret
  exact ⟨rfl, (Mod.refl _ _).alloc _⟩

/-! ### the methods of one that is there -/
theorem now_any (b : Nat) (l m n t : Int) (w : World) (hb : BO w b l m n t) :
    Calls Try.prog 13 #[at0 b] w fun e w' => e = .returned (.int .i64 n) ∧ w = w' := by
  have h2 := cell_of_block hb 2 rfl
  clear hb
  go_enter Try.func13, Try.ntmps13
  go_wp2
  go_ret
  exact ⟨rfl, rfl⟩

theorem times_any (b : Nat) (l m n t : Int) (w : World) (hb : BO w b l m n t) :
    Calls Try.prog 16 #[at0 b] w fun e w' => e = .returned (.int .i64 t) ∧ w = w' := by
  have h2 := cell_of_block hb 3 rfl
  clear hb
  go_enter Try.func16, Try.ntmps16
  go_wp2
  go_ret
  exact ⟨rfl, rfl⟩

theorem failf_any (n t m : Int) (b bb : Nat) (w : World) (hc : w.cell? ⟨bb, 0, none⟩ = some (at0 b))
    (h1 : w.cell? ⟨b, 1, none⟩ = some (.int .i64 m)) (hm : I64 m) (hn : I64 n) (ht : 0 ≤ t) (ht2 : t ≤ 9007199254740992) :
    Calls Try.prog 19 #[.int .i64 n, .int .i64 t, at0 bb] w fun e w' =>
      e = .returned (.tuple #[.int .i64 (nextZ n m), .int .i64 (t + 1)]) ∧ w = w' := by
  go_enter Try.func19, Try.ntmps19
  go_wp2_with (go_at_call 9; refine (next_any _ _ hn hm _).mono ?_; rintro e w' ⟨rfl, rfl⟩)
  go_ret2
  exact ⟨rfl, rfl⟩

theorem goodf_any (n t l : Int) (b bb : Nat) (w : World) (hc : w.cell? ⟨bb, 0, none⟩ = some (at0 b))
    (h1 : w.cell? ⟨b, 0, none⟩ = some (.int .i64 l)) :
    Calls Try.prog 20 #[.int .i64 n, .int .i64 t, at0 bb] w fun e w' =>
      e = .returned (.tuple #[.int .i64 l, .int .i64 0]) ∧ w = w' := by
  go_enter Try.func20, Try.ntmps20
  go_wp2
  go_ret2
  exact ⟨rfl, rfl⟩

end Go.Proofs.Ytlcnahnondgofaa
