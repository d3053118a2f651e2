/- Package count: counts, but for their text, as contracts on the block that holds them. -/
import Derived.Test.YtffcklhoeejlfaaDoorKit
namespace Go.Proofs.YtffcklhoeejlfaaDoor
open Go.RowKit

/-- Block b holds counts. -/
def CO (w : World) (b : Nat) (c : List Int) : Prop :=
  w.heap[b]? = some (.cells (c.map (Value.int .i64)).toArray 47 (0, 0)) ∧ c.length = 13

/-- No counts: a name, so that the walk leaves it whole. -/
def zero13 : List Int := List.replicate 13 0
theorem zero13_len : zero13.length = 13 := rfl
theorem zero13_at (k : Nat) : zero13.getD k 0 = 0 := by
  simp only [zero13, List.getD, List.getElem?_replicate]
  split <;> rfl

abbrev at0 (b : Nat) : Value := .pointer (some ⟨b, 0, none⟩)
abbrev ints (c : List Int) : Value := .agg (c.map (Value.int .i64)).toArray

theorem CO.heap {S : Nat → Prop} {w w' : World} {b : Nat} {c : List Int} (h : CO w b c) (hm : Mod S w w') (hb : ¬ S b) : CO w' b c := ⟨hm.heap h.1 hb, h.2⟩

theorem CO.cell {w : World} {b : Nat} {c : List Int} (h : CO w b c) (k : Nat) (hk : k < 13) : w.cell? ⟨b, k, none⟩ = some (.int .i64 (c.getD k 0)) := by
  refine cell_of_block h.1 k ?_
  have := h.2
  simp [List.getD, this, hk]

theorem CO.set {w : World} {b : Nat} {c : List Int} (h : CO w b c) (k : Nat) (x : Int) : CO (w.setCell ⟨b, k, none⟩ (.int .i64 x)) b (c.set k x) := by
  refine ⟨?_, by simp [h.2]⟩
  rw [heap_setCell_eq h.1]
  simp

theorem new_any (w : World) :
    Calls Tryd.prog 7 #[] w fun e w' => ∃ b, e = .returned (at0 b) ∧ w.heap.size ≤ b ∧ CO w' b zero13 ∧ Mod NoB w w' := by
  go_enter Tryd.func7, Tryd.ntmps7
  go_wp2
  go_ret
  exact ⟨_, rfl, Nat.le_refl _, ⟨heap_alloc_new w _, rfl⟩, (Mod.refl _ _).alloc _⟩

/-- Is there such a reason? -/
def inB (n : Int) : Bool := decide (0 ≤ n) && decide (n < 13)

theorem known_any (n : Int) (hn : I64 n) (w : World) :
    Calls Tryd.prog 17 #[.int .i64 n] w fun e w' => e = .returned (.bool (inB n)) ∧ w = w' := by
  obtain ⟨h1, h2⟩ := hn
  go_enter Tryd.func17, Tryd.ntmps17
  go_wp2
  all_goals
    go_ret
    refine ⟨bool_ret ?_, rfl⟩
    unfold inB
    simp
    try omega

theorem all_nil (w : World) :
    Calls Tryd.prog 18 #[.pointer none] w fun e w' => e = .returned (ints zero13) ∧ Mod NoB w w' := by
  go_enter Tryd.func18, Tryd.ntmps18
  go_wp2
  exact bodyPost_ret (v := ints zero13) (by simp [results, Tryd.results18, go_sem]; rfl) rfl ⟨rfl, (Mod.refl _ _).alloc _⟩

theorem all_any (b : Nat) (c : List Int) (w : World) (h : CO w b c) :
    Calls Tryd.prog 18 #[at0 b] w fun e w' => e = .returned (ints c) ∧ Mod NoB w w' := by
  obtain ⟨hb, hl⟩ := h
  have hlt := lt_of_block hb
  match c, hl with
  | [c0, c1, c2, c3, c4, c5, c6, c7, c8, c9, c10, c11, c12], _ =>
    have hb2 := fun o => hide ((heap_alloc_old hlt o).trans hb)
    replace hb := hide hb
    go_enter Tryd.func18, Tryd.ntmps18
    go_wp2_with (refine wpList_load_row rfl 45 _ rfl b rfl _ _ _ _ (hb2 _).out Tryd.underlying45 rfl (by kernel_rfl) ?_)
    exact bodyPost_ret (v := ints [c0, c1, c2, c3, c4, c5, c6, c7, c8, c9, c10, c11, c12]) (by simp [results, Tryd.results18, go_sem]) rfl ⟨rfl, (Mod.refl _ _).alloc _⟩

/-! ### Add -/
theorem add_nil (n : Int) (w : World) :
    Calls Tryd.prog 9 #[.pointer none, .int .i64 n] w fun e w' => e = .returned (.int .i64 1) ∧ w = w' := by
  go_enter Tryd.func9, Tryd.ntmps9
  go_wp2
  go_ret
  exact ⟨rfl, rfl⟩

theorem add_kind (b : Nat) (n : Int) (hn : I64 n) (h : n < 0 ∨ 12 < n) (w : World) :
    Calls Tryd.prog 9 #[at0 b, .int .i64 n] w fun e w' => e = .returned (.int .i64 10) ∧ w = w' := by
  have hf : inB n = false := by unfold inB; simp; omega
  clear h
  go_enter Tryd.func9, Tryd.ntmps9
  go_wp2_with fail
  refine (known_any _ hn _).mono ?_
  rintro e w' ⟨rfl, rfl⟩
  go_wp2
  go_ret
  exact ⟨rfl, rfl⟩

theorem add_any (b k : Nat) (c : List Int) (w : World) (h : CO w b c) (hk : k < 13) (h0 : 0 ≤ c.getD k 0) (h1 : c.getD k 0 ≤ 9007199254740992) :
    Calls Tryd.prog 9 #[at0 b, .int .i64 k] w fun e w' =>
      e = .returned (.int .i64 0) ∧ CO w' b (c.set k (c.getD k 0 + 1)) ∧ Mod (· = b) w w' := by
  have hc := h.cell k hk
  have hf := frozen_of_block h.1 k
  replace h := hide h
  have ht : inB k = true := by unfold inB; simp; omega
  generalize c.getD k 0 = x at hc h0 h1 ⊢
  go_enter Tryd.func9, Tryd.ntmps9
  go_wp2_with fail
  refine (known_any _ ⟨by omega, by omega⟩ _).mono ?_
  rintro e w' ⟨rfl, rfl⟩
  go_wp2_with fail
  go_region
  all_goals
    go_wp2
    go_ret
    exact ⟨rfl, h.out.set k _, ((Mod.refl _ _).set1 _ _).drew⟩

end Go.Proofs.YtffcklhoeejlfaaDoor
