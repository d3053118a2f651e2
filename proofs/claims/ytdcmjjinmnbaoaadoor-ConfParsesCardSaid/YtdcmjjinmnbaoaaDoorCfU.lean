/- conf.Parse, walked: texts that are too long, or have a wrong line. -/
import Derived.Test.YtdcmjjinmnbaoaaDoorCfT
namespace Go.Proofs.YtdcmjjinmnbaoaaDoor
open Go.RowKit

theorem tabs_of {w : World} (hL : LaidN w) : ∀ x, Mod NoB w x → Lib.TabIs Tryd.prog x "strings.asciiSpace" .u8 Lib.asciiSpaceTab := fun _ hm => hL.s.mod hm

theorem set6 {W : World} {B : Nat} {x0 x1 x2 x3 x4 x5 : Value} {T : TypeId} (h : W.heap[B]? = some (.cells #[x0, x1, x2, x3, x4, x5] T (0, 0))) (y0 y1 y2 y3 y4 y5 : Value) :
    ∃ W6, (((((W.setCell ⟨B, 0, none⟩ y0).setCell ⟨B, 1, none⟩ y1).setCell ⟨B, 2, none⟩ y2).setCell ⟨B, 3, none⟩ y3).setCell ⟨B, 4, none⟩ y4).setCell ⟨B, 5, none⟩ y5 = W6 ∧ W6.heap[B]? = some (.cells #[y0, y1, y2, y3, y4, y5] T (0, 0)) ∧ Mod (· = B) W W6 := by
  refine ⟨_, rfl, ?_, (((((Mod.refl _ _).set1 _ _).set1 _ _).set1 _ _).set1 _ _).set1 _ _ |>.set1 _ _⟩
  have h1 := heap_setCell_eq (o := 0) h y0
  have h2 := heap_setCell_eq (o := 1) h1 y1
  have h3 := heap_setCell_eq (o := 2) h2 y2
  have h4 := heap_setCell_eq (o := 3) h3 y3
  have h5 := heap_setCell_eq (o := 4) h4 y4
  have h6 := heap_setCell_eq (o := 5) h5 y5
  rw [h6]
  rfl

/-- The variable of the result, six cells of it. -/
structure Six (W : World) (B : Nat) (x0 x1 x2 x3 x4 x5 : Value) : Prop where
  b0 : W.cell? ⟨B, 0, none⟩ = some x0
  b1 : W.cell? ⟨B, 1, none⟩ = some x1
  b2 : W.cell? ⟨B, 2, none⟩ = some x2
  b3 : W.cell? ⟨B, 3, none⟩ = some x3
  b4 : W.cell? ⟨B, 4, none⟩ = some x4
  b5 : W.cell? ⟨B, 5, none⟩ = some x5
  f0 : W.frozen? ⟨B, 0, none⟩ = false
  f1 : W.frozen? ⟨B, 1, none⟩ = false
  f2 : W.frozen? ⟨B, 2, none⟩ = false
  f3 : W.frozen? ⟨B, 3, none⟩ = false
  f4 : W.frozen? ⟨B, 4, none⟩ = false
  f5 : W.frozen? ⟨B, 5, none⟩ = false
theorem six_of {W : World} {B : Nat} {x0 x1 x2 x3 x4 x5 : Value} {T : TypeId} (h : W.heap[B]? = some (.cells #[x0, x1, x2, x3, x4, x5] T (0, 0))) : Six W B x0 x1 x2 x3 x4 x5 :=
  ⟨cell_of_block h 0 rfl, cell_of_block h 1 rfl, cell_of_block h 2 rfl, cell_of_block h 3 rfl, cell_of_block h 4 rfl, cell_of_block h 5 rfl, frozen_of_block h 0, frozen_of_block h 1, frozen_of_block h 2, frozen_of_block h 3, frozen_of_block h 4, frozen_of_block h 5⟩

set_option maxRecDepth 100000 in
set_option maxHeartbeats 4000000 in
theorem parse_long (l : List UInt8) (hl : 65536 < l.length) (h2 : l.length ≤ 9223372036854775807) (w : World) :
    Calls Tryd.prog 10 #[.string (bs l)] w fun e w' => ParseOut (parseR l) w e w' ∧ Mod NoB w w' := by
  have hr := parseR_long hl
  have hlines := lines_long l hl h2
  rw [hr]
  clear hr
  replace hlines := hide hlines
  go_enter Tryd.func10, Tryd.ntmps10
  go_wp2_with fail
  refine (hlines.out _).mono ?_
  rintro e w1 ⟨rfl, hm⟩
  have hm1 : Hid (Mod NoB w w1) := hide (((Mod.refl _ _).alloc _).trans hm)
  have hb : w1.heap[w.heap.size]? = some (.cells #[.slice none 0 0, .int .i64 0, .int .i64 0, .int .i64 0, .int .i64 0, .int .i64 0] 25 (0, 0)) := hm.heap (heap_alloc_new _ _) id
  clear hm
  obtain ⟨b0, b1, b2, b3, b4, b5, f0, f1, f2, f3, f4, f5⟩ := six_of hb
  obtain ⟨W6, hW6, hb6, hm6⟩ := set6 hb (.slice none 0 0) (.int .i64 0) (.int .i64 0) (.int .i64 0) (.int .i64 0) (.int .i64 0)
  replace hW6 := hide hW6
  replace hb6 := hide hb6
  replace hb := hide hb
  have hmf : Hid (Mod NoB w W6) := hide (hm1.out.into hm6 (fun b e => Or.inr (by omega)))
  clear hm6
  go_wp2
  rw [hW6.out]
  clear b0 b1 b2 b3 b4 b5 f0 f1 f2 f3 f4 f5
  obtain ⟨b0, b1, b2, b3, b4, b5, -⟩ := six_of hb6.out
  refine bodyPost_ret (v := .tuple #[.agg #[.slice none 0 0, .int .i64 0, .int .i64 0, .int .i64 0, .int .i64 0, .int .i64 0], .int .i64 0, .int .i64 7]) (by simp [results, Tryd.results10, go_sem, b0, b1, b2, b3, b4, b5]) rfl ⟨.err, hmf.out⟩
end Go.Proofs.YtdcmjjinmnbaoaaDoor
