/- Package backoff: set, Fail and Good, as contracts on the block that holds the object. -/
import Derived.Test.YtlcnahnondgofaaBkB
namespace Go.Proofs.Ytlcnahnondgofaa
open Go.RowKit

theorem setCells {w : World} {b : Nat} {l m n t : Int} (hb : BO w b l m n t) (n' t' : Int) :
    BO ((w.setCell ⟨b, 2, none⟩ (.int .i64 n')).setCell ⟨b, 3, none⟩ (.int .i64 t')) b l m n' t' :=
  heap_setCell_eq (heap_setCell_eq hb _) _

theorem set_fail (b bb : Nat) (l m n t : Int) (w : World) (hb : BO w b l m n t)
    (hc : w.cell? ⟨bb, 0, none⟩ = some (at0 b)) (hm : I64 m) (hn : I64 n) (ht : 0 ≤ t) (ht2 : t ≤ 9007199254740992) :
    Calls Try.prog 18 #[at0 b, .func (.func 19) #[] #[at0 bb]] w (BkPost b l m (nextZ n m) (t + 1) (nextZ n m) w) := by
  have h1 := cell_of_block hb 1 rfl
  have h2 := cell_of_block hb 2 rfl
  have h3 := cell_of_block hb 3 rfl
  have g2 := frozen_of_block hb 2
  have g3 := frozen_of_block hb 3
  have HB : Hid (BO w b l m n t) := hb
  clear hb
  go_enter Try.func18, Try.ntmps18
  go_wp2_with fail
  go_region_with ((go_at_call 19; refine (failf_any _ _ m b _ _ ?_ ?_ hm hn ht ht2).mono ?_; go_simp; go_simp; rintro e w' ⟨rfl, rfl⟩))
  all_goals
    go_wp2
    go_ret
    exact ⟨rfl, setCells HB.out _ _, (((Mod.refl _ _).set1 _ _).set1 _ _).drew⟩

theorem set_good (b bb : Nat) (l m n t : Int) (w : World) (hb : BO w b l m n t)
    (hc : w.cell? ⟨bb, 0, none⟩ = some (at0 b)) :
    Calls Try.prog 18 #[at0 b, .func (.func 20) #[] #[at0 bb]] w (BkPost b l m l 0 l w) := by
  have h0 := cell_of_block hb 0 rfl
  have h2 := cell_of_block hb 2 rfl
  have h3 := cell_of_block hb 3 rfl
  have g2 := frozen_of_block hb 2
  have g3 := frozen_of_block hb 3
  have HB : Hid (BO w b l m n t) := hb
  clear hb
  go_enter Try.func18, Try.ntmps18
  go_wp2_with fail
  go_region_with ((go_at_call 20; refine (goodf_any _ _ l b _ _ ?_ ?_).mono ?_; go_simp; go_simp; rintro e w' ⟨rfl, rfl⟩))
  all_goals
    go_wp2
    go_ret
    exact ⟨rfl, setCells HB.out _ _, (((Mod.refl _ _).set1 _ _).set1 _ _).drew⟩

theorem fail_any (b : Nat) (l m n t : Int) (w : World) (hb : BO w b l m n t) (hm : I64 m) (hn : I64 n) (ht : 0 ≤ t) (ht2 : t ≤ 9007199254740992) :
    Calls Try.prog 14 #[at0 b] w (BkPost b l m (nextZ n m) (t + 1) (nextZ n m) w) := by
  have hmf : ∀ (fn : Fn) (first cap : Array Value) (w : World), (Instr.makeFunc fn first cap).run Try.prog w = .ok (.func fn first cap) w := fun _ _ _ _ => rfl
  have hlt := lt_of_block hb
  have HB : Hid (BO w b l m n t) := hb
  clear hb
  go_enter Try.func14, Try.ntmps14
  go_wp2_with fail
  refine (set_fail b w.heap.size l m n t _ ((heap_alloc_old hlt _).trans HB.out) ?_ hm hn ht ht2).mono ?_
  · exact cell_of_block (heap_alloc_new w _) 0 rfl
  · rintro e w' ⟨rfl, h1, h2⟩
    go_wp2
    go_ret
    exact ⟨rfl, h1, ((Mod.refl _ _).alloc _).into h2 fun _ h => Or.inl h⟩

theorem good_any (b : Nat) (l m n t : Int) (w : World) (hb : BO w b l m n t) :
    Calls Try.prog 15 #[at0 b] w (BkPost b l m l 0 l w) := by
  have hmf : ∀ (fn : Fn) (first cap : Array Value) (w : World), (Instr.makeFunc fn first cap).run Try.prog w = .ok (.func fn first cap) w := fun _ _ _ _ => rfl
  have hlt := lt_of_block hb
  have HB : Hid (BO w b l m n t) := hb
  clear hb
  go_enter Try.func15, Try.ntmps15
  go_wp2_with fail
  refine (set_good b w.heap.size l m n t _ ((heap_alloc_old hlt _).trans HB.out) ?_).mono ?_
  · exact cell_of_block (heap_alloc_new w _) 0 rfl
  · rintro e w' ⟨rfl, h1, h2⟩
    go_wp2
    go_ret
    exact ⟨rfl, h1, ((Mod.refl _ _).alloc _).into h2 fun _ h => Or.inl h⟩

end Go.Proofs.Ytlcnahnondgofaa
