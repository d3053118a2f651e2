/- The document's example of chapter 5. -/
import Derived.Test.YthbaoocnnfnhnaaDoorLxI2
namespace Go.Proofs.YthbaoocnnfnhnaaDoor
open Go.RowKit

def aliveL : List UInt8 := [97, 32, 32, 98, 32, 35, 32, 99, 10, 10, 32, 55]
theorem alive_parts : partsN 10 aliveL = 3 := by decide
theorem alive_ok : ∀ j, j < 3 → okLine aliveL j = true := by decide
theorem alive_lines : linesTo aliveL 3 = [(1, [[97], [98]]), (3, [[55]])] := by decide

set_option maxRecDepth 100000 in
set_option maxHeartbeats 4000000 in
theorem alive_any (w : World) (hL : LaidS w) : Calls Tryd.prog 10 #[] w fun e w' => e = .returned (.bool true) ∧ Mod NoB w w' := by
  have hl0 := lines_walk aliveL (by decide) w (fun W hm => hL.mod hm)
  have hl : Calls Tryd.prog 11 #[.string ⟨#[97, 32, 32, 98, 32, 35, 32, 99, 10, 10, 32, 55]⟩] w (LinesOut w aliveL) := hl0
  replace hl := hide hl
  clear hl0
  go_enter Tryd.func10, Tryd.ntmps10
  go_wp2_with fail
  refine hl.out.mono ?_
  rintro e w1 ⟨(⟨j, h1, h2, _⟩ | ⟨_, v, rfl, hv⟩), hm⟩
  · rw [alive_parts] at h1
    rw [alive_ok j h1] at h2
    cases h2
  · rw [alive_parts, alive_lines] at hv
    obtain ⟨p, cap, rfl, hc⟩ := hv.open
    obtain ⟨g, u0, c0, rfl, a1, a2, a3⟩ := hc 0 _ rfl
    obtain ⟨g', u1, c1, e1, b1, b2, b3⟩ := hc 1 _ rfl
    cases e1
    obtain ⟨g0, q0, e0, -, -, f0⟩ := StrsAt.open a3 (by decide)
    cases e0
    obtain ⟨g1, q1, e1, -, -, f1⟩ := StrsAt.open b3 (by decide)
    cases e1
    have x1 := f0 1 _ rfl
    have x2 := f1 0 _ rfl
    simp only [Nat.zero_mul, Nat.one_mul, List.length_cons, List.length_nil, Nat.reduceAdd] at a1 a2 b1 b2 ⊢
    clear hc f0 f1 hv a3 b3
    replace hm := hide hm
    go_wp2
    go_ret
    exact ⟨rfl, hm.out⟩

end Go.Proofs.YthbaoocnnfnhnaaDoor
