/- The document's numbers of words (chapter 6). -/
import Derived.Test.YtdcmjjinmnbaoaaDoorCfV
namespace Go.Proofs.YtdcmjjinmnbaoaaDoor
open Go.RowKit

abbrev pair2 (x y : Int) : Array Value := #[.int .i64 x, .int .i64 y]
theorem set2 {W : World} {B : Nat} {x0 x1 : Value} {T : TypeId} (h : W.heap[B]? = some (.cells #[x0, x1] T (0, 0))) (y0 y1 : Value) :
    ∃ W2, (W.setCell ⟨B, 0, none⟩ y0).setCell ⟨B, 1, none⟩ y1 = W2 ∧ W2.heap[B]? = some (.cells #[y0, y1] T (0, 0)) ∧ Mod (· = B) W W2 := by
  refine ⟨_, rfl, ?_, ((Mod.refl _ _).set1 _ _).set1 _ _⟩
  have h1 := heap_setCell_eq (o := 0) h y0
  have h2 := heap_setCell_eq (o := 1) h1 y1
  rw [h2]
  rfl

/-- How the document's numbers end. -/
def NumsOut (ns : List (List UInt8)) (e : Ending) : Prop :=
  (numsE ns = 0 ∧ e = .returned (.tuple #[.agg (pair2 ((numsV ns ns.length).getD 0 0) ((numsV ns ns.length).getD 1 0)), .int .i64 0])) ∨
  (numsE ns ≠ 0 ∧ ∃ x y : Int, e = .returned (.tuple #[.agg (pair2 x y), .int .i64 (numsE ns)]))

set_option maxRecDepth 100000 in
set_option maxHeartbeats 8000000 in
theorem rnumbers_any (ns : List (List UInt8)) (g o cap : Nat) (w : World) (hw : ∀ j s, ns[j]? = some s → w.cell? ⟨g, o + j, none⟩ = some (.string (bs s))) (hn2 : ns.length ≤ 2) (hlen : ∀ s ∈ ns, s.length ≤ 1000000) :
    Calls Tryd.prog 47 #[.slice (some ⟨g, o, none⟩) ns.length cap] w fun e w' => NumsOut ns e ∧ Mod NoB w w' := by
  have hcw := hide hw
  have hnum := fun (i : Nat) (s : List UInt8) (h : ns[i]? = some s) w' => rnumber_any s w' (hlen s (List.mem_of_getElem? h))
  replace hnum := hide hnum
  have hB0 : ((w.alloc (.cells #[.int .i64 0, .int .i64 0] 95)).alloc (.cells #[.int .i64 0, .int .i64 0] 95)).heap[w.heap.size]? = some (.cells (pair2 0 0) 95 (0, 0)) := (heap_alloc_old (by simp) _).trans (heap_alloc_new _ _)
  have hB1 : ((w.alloc (.cells #[.int .i64 0, .int .i64 0] 95)).alloc (.cells #[.int .i64 0, .int .i64 0] 95)).heap[w.heap.size + 1]? = some (.cells (pair2 0 0) 95 (0, 0)) := by
    have := heap_alloc_new (w.alloc (.cells #[.int .i64 0, .int .i64 0] 95)) (.cells #[.int .i64 0, .int .i64 0] 95)
    rwa [World.size_alloc] at this
  have hm0 : Mod NoB w ((w.alloc (.cells #[.int .i64 0, .int .i64 0] 95)).alloc (.cells #[.int .i64 0, .int .i64 0] 95)) := ((Mod.refl _ _).alloc _).alloc _
  replace hB0 := hide hB0
  replace hB1 := hide hB1
  replace hm0 := hide hm0
  clear hw
  go_enter Tryd.func47, Tryd.ntmps47
  go_wp2_with fail
  go_loopw [5] (fun vi wr => ∃ (i : Nat), i ≤ ns.length ∧ vi = .int .i64 i ∧ wr.heap[w.heap.size]? = some (.cells (pair2 0 0) 95 (0, 0)) ∧ wr.heap[w.heap.size + 1]? = some (.cells (pair2 ((numsV ns i).getD 0 0) ((numsV ns i).getD 1 0)) 95 (0, 0)) ∧ (∀ j, j < i → (numR (ns.getD j [])).2 = 0) ∧ Mod NoB w wr) (fun vi _ => ns.length - (intOf vi).toNat)
  case atStart => exact ⟨0, by omega, rfl, hB0.out, hB1.out, by omega, hm0.out⟩
  case round =>
    obtain ⟨i, hil, rfl, hb0, hb1, hz, hm⟩ := hrel
    by_cases hlt : i < ns.length
    · obtain ⟨s, hs⟩ : ∃ s, ns[i]? = some s := ⟨ns[i], by simp [hlt]⟩
      have hcs : wr.cell? ⟨g, o + i, none⟩ = some (.string (bs s)) := hm.cellAt id (hcw.out i s hs)
      have hcall := hnum.out i s hs wr
      have hsn := hide (numsV_succ hs)
      have hnl := hide (numsV_len (ns := ns) (i := i) (by omega))
      have hgd : Hid (ns.getD i [] = s) := hide (by simp [List.getD, hs])
      obtain ⟨v, er, hr⟩ : ∃ v er, numR s = (v, er) := ⟨_, _, rfl⟩
      rw [hr] at hcall hsn
      replace hcall := hide hcall
      replace hr := hide hr
      replace hs := hide hs
      replace hm := hide hm
      replace hz := hide hz
      replace hb0 := hide hb0
      replace hb1 := hide hb1
      have hi0 : (0 : Int) ≤ (i : Int) := by omega
      have hi1 : (i : Int) < (ns.length : Int) := by omega
      go_wp2_with fail
      refine hcall.out.mono ?_
      rintro e w2 ⟨rfl, hm2⟩
      have hb0' := hm2.heap hb0.out id
      have hb1' := hm2.heap hb1.out id
      replace hm := hide (hm.out.trans hm2)
      have hB : w.heap.size < w2.heap.size := lt_of_block hb0'
      clear hm2
      have a0 := cell_of_block hb1' 0 rfl
      have a1 := cell_of_block hb1' 1 rfl
      have c0 := cell_of_block hb0' 0 (v := .int .i64 0) rfl
      have c1 := cell_of_block hb0' 1 (v := .int .i64 0) rfl
      have f0 := frozen_of_block hb1' 0
      have f1 := frozen_of_block hb1' 1
      have d0 := frozen_of_block hb0' 0
      have d1 := frozen_of_block hb0' 1
      by_cases he : er = 0
      · subst he
        have hz2' : Hid (∀ j, j < i + 1 → (numR (ns.getD j [])).2 = 0) := hide (by
          intro j hj
          by_cases hji : j < i
          · exact hz.out j hji
          · obtain rfl : j = i := by omega
            rw [hgd.out, hr.out])
        have hsto : ∃ u, w2.cell? ⟨w.heap.size + 1, i, none⟩ = some u := by
          rcases (by omega : i = 0 ∨ i = 1) with rfl | rfl
          · exact ⟨_, a0⟩
          · exact ⟨_, a1⟩
        obtain ⟨u, hu⟩ := hsto
        have hfu := frozen_of_block hb1' i
        have hset := heap_setCell_eq (o := i) hb1' (.int .i64 v)
        have hset2 : Hid ((w2.setCell ⟨w.heap.size + 1, i, none⟩ (.int .i64 v)).heap[w.heap.size + 1]? = some (.cells (pair2 ((numsV ns (i + 1)).getD 0 0) ((numsV ns (i + 1)).getD 1 0)) 95 (0, 0))) := hide (by
          rw [hset, hsn.out]
          have hl := hnl.out
          rcases (by omega : i = 0 ∨ i = 1) with rfl | rfl
          · have h0 : numsV ns 0 = [] := rfl
            rw [h0]; rfl
          · obtain ⟨x, hx⟩ : ∃ x, numsV ns 1 = [x] := List.length_eq_one_iff.1 hl
            rw [hx]; rfl)
        have hs0 : Hid ((w2.setCell ⟨w.heap.size + 1, i, none⟩ (.int .i64 v)).heap[w.heap.size]? = some (.cells (pair2 0 0) 95 (0, 0))) := hide ((heap_setCell_ne (by show w.heap.size ≠ w.heap.size + 1; omega) _).trans hb0')
        have hms : Hid (Mod NoB w (w2.setCell ⟨w.heap.size + 1, i, none⟩ (.int .i64 v))) := hide (hm.out.setCell (Or.inr (by show w.heap.size ≤ w.heap.size + 1; omega)) _)
        have hi2 : (i : Int) < 2 := by omega
        clear hset a0 a1 c0 c1 f0 f1 d0 d1 hb0' hb1'
        go_wp2_with fail
        go_roundw
        case rel => exact ⟨i + 1, by omega, by go_num, hs0.out, hset2.out, hz2'.out, hms.out⟩
        case measure => simp [intOf]; omega
      · have heb : (er != 0) = true := by simpa [bne_iff_ne] using he
        have hne : Hid (numsE ns = er) := hide (by
          have := numsE_at hz.out hlt (by rw [hgd.out, hr.out]; exact he)
          rw [this, hgd.out, hr.out])
        obtain ⟨x, hx⟩ : ∃ x, (numsV ns i).getD 0 0 = x := ⟨_, rfl⟩
        obtain ⟨y, hy⟩ : ∃ y, (numsV ns i).getD 1 0 = y := ⟨_, rfl⟩
        rw [hx] at a0
        rw [hy] at a1
        replace hx := hide hx
        replace hy := hide hy
        obtain ⟨W2, hW2, hb2, hm2⟩ := set2 hb0' (.int .i64 x) (.int .i64 y)
        have hmf : Hid (Mod NoB w W2) := hide (hm.out.into hm2 (fun b e => Or.inr (by omega)))
        replace hW2 := hide hW2
        replace hb2 := hide hb2
        replace hb0' := hide hb0'
        replace hb1' := hide hb1'
        clear hm2
        go_wp2
        rw [hW2.out]
        clear a0 a1 c0 c1 f0 f1 d0 d1
        have b0 := cell_of_block hb2.out 0 (v := .int .i64 x) rfl
        have b1 := cell_of_block hb2.out 1 (v := .int .i64 y) rfl
        refine bodyPost_ret (v := .tuple #[.agg (pair2 x y), .int .i64 er]) (by simp [results, Tryd.results47, go_sem, b0, b1]) rfl ⟨Or.inr ⟨by rw [hne.out]; exact he, x, y, by rw [hne.out]⟩, hmf.out⟩
    · obtain rfl : i = ns.length := by omega
      have a0 := cell_of_block hb1 0 rfl
      have a1 := cell_of_block hb1 1 rfl
      have c0 := cell_of_block hb0 0 (v := .int .i64 0) rfl
      have c1 := cell_of_block hb0 1 (v := .int .i64 0) rfl
      have d0 := frozen_of_block hb0 0
      have d1 := frozen_of_block hb0 1
      have hne := hide (numsE_all hz)
      obtain ⟨x, hx⟩ : ∃ x, (numsV ns ns.length).getD 0 0 = x := ⟨_, rfl⟩
      obtain ⟨y, hy⟩ : ∃ y, (numsV ns ns.length).getD 1 0 = y := ⟨_, rfl⟩
      rw [hx] at a0
      rw [hy] at a1
      replace hx := hide hx
      replace hy := hide hy
      obtain ⟨W2, hW2, hb2, hm2⟩ := set2 hb0 (.int .i64 x) (.int .i64 y)
      have hmf : Hid (Mod NoB w W2) := hide (hm.into hm2 (fun b e => Or.inr (by omega)))
      replace hW2 := hide hW2
      replace hb2 := hide hb2
      replace hb0 := hide hb0
      replace hb1 := hide hb1
      replace hz := hide hz
      clear hm2
      go_wp2
      rw [hW2.out]
      clear a0 a1 c0 c1 d0 d1
      have b0 := cell_of_block hb2.out 0 (v := .int .i64 x) rfl
      have b1 := cell_of_block hb2.out 1 (v := .int .i64 y) rfl
      refine bodyPost_ret (v := .tuple #[.agg (pair2 x y), .int .i64 0]) (by simp [results, Tryd.results47, go_sem, b0, b1]) rfl ⟨Or.inl ⟨hne.out, by rw [hx.out, hy.out]⟩, hmf.out⟩
end Go.Proofs.YtdcmjjinmnbaoaaDoor
