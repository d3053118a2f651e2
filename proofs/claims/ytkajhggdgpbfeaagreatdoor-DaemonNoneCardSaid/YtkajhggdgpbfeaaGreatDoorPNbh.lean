/- The document's example of chapter 17. An event handed in; a daemon that isn't there. The document's numbers of words (chapter 6). -/
import Derived.Test.YtkajhggdgpbfeaaGreatDoorPNbd
import Derived.Test.YtkajhggdgpbfeaaGreatDoorPNbg
import Derived.Test.YtkajhggdgpbfeaaGreatDoorPNal
import Derived.Deep.RegionHeld
import Derived.Lib.SmallJoins
import Derived.Deep.Fields
import Derived.ChangeSlices
import Derived.Test.YtkajhggdgpbfeaaGreatDoorPNbe
namespace Go.Proofs.YtkajhggdgpbfeaaGreatDoor
set_option linter.unusedSimpArgs false
open Go.RowKit

def exText : List UInt8 := [115, 101, 114, 118, 101, 114, 32, 55, 10, 113, 117, 111, 114, 117, 109, 32, 49, 10, 112, 111, 108, 108, 32, 52, 32, 49, 54, 10, 100, 101, 108, 97, 121, 32, 49, 48, 48, 48, 10, 115, 108, 101, 119, 32, 53, 48, 48, 10]
def exCfg : Cfg := ⟨[7], 1, 4, 16, 1000, 500⟩
theorem ex_1 : (parseR exText).1 = exCfg := by kernel_rfl
theorem ex_2 : (parseR exText).2.2 = 0 := by kernel_rfl
theorem exOut : newOut exText 0 0 = .inr exCfg := by
  unfold newOut
  rw [if_neg (by rw [ex_2]; simp), if_neg (by decide), ex_1]
def exD0 : DaemonS := newS exCfg 0 0
def exE1 : EvS := ⟨0, 0, 0, 5, []⟩
def exD1 : DaemonS := (doS exD0 exE1).1
def exE2 : EvS := ⟨1, 10, 7, 0, (goodP 5 4294967296 4294967296).bytes⟩
theorem ex_e1 : errS exD0 exE1 = 0 := by kernel_rfl
theorem ex_o1 : (doS exD0 exE1).2 = ⟨[(7, (queryP 5).bytes)], 0, 1000000001, 0⟩ := by kernel_rfl
theorem ex_e2 : errS exD1 exE2 = 0 := by kernel_rfl
theorem ex_r2 : (doS exD1 exE2).2.reason = 0 := by kernel_rfl
theorem ex_c2 : (doS exD1 exE2).1.chosen = 1 := by kernel_rfl
theorem ex_s2 : (doS exD1 exE2).2.sends = [] := by kernel_rfl
theorem ex_lt1 : ∀ c ∈ (queryP 5).bytes, c < 256 := by decide +kernel
theorem ex_lt2 : ∀ c ∈ (goodP 5 4294967296 4294967296).bytes, c < 256 := by decide +kernel
theorem ex_ok : exD0.Ok ∧ exD0.Cnt 0 := newS_ok (by kernel_rfl) (by kernel_rfl)
theorem example_any (w : World) : Calls Tryz.prog 36 #[] w fun e w' => e = .returned (.string (bs exText)) ∧ w = w' := by
  go_enter Tryz.func36, Tryz.ntmps36
  go_wp2
  go_ret
  exact ⟨rfl, rfl⟩
set_option maxRecDepth 100000 in
set_option maxHeartbeats 8000000 in
theorem alive_any (w : World) (hL : LaidN w) : Calls Tryz.prog 12 #[] w fun e w' => e = .returned (.bool true) ∧ Mod NoB w w' := by
  have hnew := hide (new_any exText (by decide) 0 0 w hL)
  have hex := hide (example_any w)
  obtain ⟨T, hT⟩ : ∃ T, bs exText = T := ⟨_, rfl⟩
  rw [hT] at hnew hex
  replace hT := hide hT
  clear hL
  go_enter Tryz.func12, Tryz.ntmps12
  go_wp2_with fail
  refine hex.out.mono ?_
  rintro e w' ⟨rfl, rfl⟩
  clear hex
  go_wp2_with fail
  refine hnew.out.mono ?_
  rintro e w1 ⟨hm1, h⟩
  clear hnew
  rcases h with ⟨line, er, rfl, ho⟩ | ⟨P, c, rfl, ho, hd, hf⟩
  · rw [exOut] at ho
    cases ho
  rw [exOut] at ho
  cases ho
  have hd : DO w1 P exD0 := hd
  obtain ⟨Q, hQ⟩ : ∃ Q, (queryP 5).bytes = Q := ⟨_, rfl⟩
  have h1 : Calls Tryz.prog 15 #[at0 P.b, .agg #[.int .i64 0, .int .i64 0, .int .i64 0, .int .u64 5, .slice none 0 0]] w1 (DoPost P exD1 ⟨[(7, Q)], 0, 1000000001, 0⟩ 0 w1) := by
    have h := do_any P exD0 ex_ok.1 (N := 0) ex_ok.2 (by decide) 0 0 0 (by decide) (by decide) 5 (by decide) none 0 0 [] w1 hd ⟨none, 0, rfl, by simp, fun h => by simp at h⟩ (fun bd off e _ => by cases e)
    rw [show errS exD0 ⟨0, 0, 0, 5, []⟩ = 0 from ex_e1, show (doS exD0 ⟨0, 0, 0, 5, []⟩).2 = ⟨[(7, (queryP 5).bytes)], 0, 1000000001, 0⟩ from ex_o1, hQ] at h
    exact h
  have hQl : Q.length = 48 := by rw [← hQ]; rfl
  have hQb : ∀ c ∈ Q, c < 256 := by rw [← hQ]; exact ex_lt1
  have hfb : ∀ k, fpD P k → w.heap.size ≤ k := hf
  replace hm1 := hide hm1
  replace hfb := hide hfb
  replace h1 := hide h1
  replace hQ := hide hQ
  replace hQl := hide hQl
  replace hQb := hide hQb
  replace hd := hide hd
  clear hf
  go_wp2_with fail
  refine h1.out.mono ?_
  rintro e w2 ⟨v1, P1, rfl, hd1, ht1, hs1⟩
  clear h1
  obtain ⟨g1, c1, u1, hv1, hg1, hc10, hc11, hu1⟩ := sends_at hs1 (i := 0) (x := (7, Q)) rfl
  subst hv1
  go_upto_region 5 with (fail)
  have hm3 : Mod NoB w2 (w2.alloc (.cells #[.slice (some ⟨g1, 0, none⟩) 1 c1, .int .i64 0, .int .i64 1000000001, .int .i64 0] 39)) := (Mod.refl _ _).alloc _
  have ho3 := heap_alloc_new w2 (.cells #[.slice (some ⟨g1, 0, none⟩) 1 c1, .int .i64 0, .int .i64 1000000001, .int .i64 0] 39)
  have hs3 : (w2.alloc (.cells #[.slice (some ⟨g1, 0, none⟩) 1 c1, .int .i64 0, .int .i64 1000000001, .int .i64 0] 39)).heap.size = w2.heap.size + 1 := by simp
  generalize w2.alloc (.cells #[.slice (some ⟨g1, 0, none⟩) 1 c1, .int .i64 0, .int .i64 1000000001, .int .i64 0] 39) = w3 at *
  have hgood := hide (sgood_any 5 4294967296 4294967296 (by decide) (by decide) (by decide) w3)
  replace hm3 := hide hm3
  replace ho3 := hide ho3
  replace hd1 := hide hd1
  replace ht1 := hide ht1
  replace hs1 := hide hs1
  replace hu1 := hide hu1
  replace hg1 := hide hg1
  go_wp2_with fail
  refine hgood.out.mono ?_
  rintro e w4 ⟨v2, rfl, hown, hm4⟩
  obtain ⟨B, hB⟩ : ∃ B, (goodP 5 4294967296 4294967296).bytes = B := ⟨_, rfl⟩
  have hBl : B.length = 48 := by rw [← hB]; rfl
  have hBb : ∀ c ∈ B, c < 256 := by rw [← hB]; exact ex_lt2
  rw [hB] at hown
  obtain ⟨g2, c2, hv2, hg2, _, _, _⟩ := own_data hown hBb (by omega)
  have hda := own_dataAt hown hBb (by omega) (by omega)
  subst hv2
  have hd4 := hd1.out.quiet (hm3.out.trans hm4)
  have hlt1 := hd1.out.lt
  have hok1 := ex_ok.1.do (e := exE1) (by decide) (N := 0) ex_ok.2 (by decide)
  obtain ⟨D2, ck, wk, hD2⟩ : ∃ D2 ck wk, doS exD1 ⟨1, 10, 7, 0, B⟩ = (D2, ⟨[], ck, wk, 0⟩) ∧ D2.chosen = 1 ∧ errS exD1 ⟨1, 10, 7, 0, B⟩ = 0 := by
    subst hB
    refine ⟨(doS exD1 exE2).1, (doS exD1 exE2).2.clock, (doS exD1 exE2).2.wake, ?_, ex_c2, ex_e2⟩
    show doS exD1 exE2 = _
    rw [← ex_r2, ← ex_s2]
  obtain ⟨hD2, hch, her⟩ := hD2
  have h2 : Calls Tryz.prog 15 #[at0 P1.b, .agg #[.int .i64 1, .int .i64 10, .int .i64 7, .int .u64 0, .slice (some ⟨g2, 0, none⟩) B.length c2]] w4 (DoPost P1 D2 ⟨[], ck, wk, 0⟩ 0 w4) := by
    have h := do_any P1 exD1 hok1.1 (N := 0 + 1) hok1.2 (by decide) 1 10 7 (by decide) (by decide) 0 (by decide) (some ⟨g2, 0, none⟩) B.length c2 B w4 hd4 hda (fun bd off e _ => by cases e; have := hlt1 _ fpD.b; omega)
    rw [her, hD2] at h
    exact h
  rw [ht1.out.b] at h2
  have hb1 : P1.b = P.b := ht1.out.b
  have hPb : P.b < w1.heap.size := hd.out.lt _ fpD.b
  have hs4 := hs1.out.mod (hm3.out.trans hm4) (fun _ _ => id)
  have ho4 := hm4.heap ho3.out id
  have hmw4 := hide (ht1.out.thenQ (hm3.out.trans hm4))
  replace hd4 := hide hd4
  replace h2 := hide h2
  replace hs4 := hide hs4
  replace ho4 := hide ho4
  replace hB := hide hB
  replace hBl := hide hBl
  replace hBb := hide hBb
  replace hD2 := hide hD2
  replace her := hide her
  replace hch := hide hch
  replace hb1 := hide hb1
  replace hlt1 := hide hlt1
  replace hown := hide hown
  replace hda := hide hda
  replace hok1 := hide hok1
  clear hgood hc10 hc11 hm3 ho3 hm4
  go_wp2_with fail
  refine h2.out.mono ?_
  rintro e w5 ⟨v3, P2, rfl, hd5, ht5, hs5⟩
  obtain ⟨p3, c3, hv3⟩ := hs5.slice
  subst hv3
  have hz2 : w1.heap.size ≤ w2.heap.size := ht1.out.m.size
  have ho5 := hd4.out.keepc ht5.m ho4.out (by rw [hb1.out]; omega) (by decide)
  have hs5' := hd4.out.keepSends ht5.m hs4.out (by rw [hb1.out]; omega)
  have hmw5 := hide (hmw4.out.trans ht5)
  replace hd5 := hide hd5
  replace ho5 := hide ho5
  replace hs5' := hide hs5'
  replace hs5 := hide hs5
  clear h2 hd4 ht5 hmw4
  go_upto_region 6 with (fail)
  have hm6 : Mod NoB w5 (w5.alloc (.cells #[.slice p3 0 c3, .int .i64 ck, .int .i64 wk, .int .i64 0] 39)) := (Mod.refl _ _).alloc _
  have ho6 := heap_alloc_new w5 (.cells #[.slice p3 0 c3, .int .i64 ck, .int .i64 wk, .int .i64 0] 39)
  generalize w5.alloc (.cells #[.slice p3 0 c3, .int .i64 ck, .int .i64 wk, .int .i64 0] 39) = w6 at *
  have hq6 := hm6.heap ho5.out id
  obtain ⟨g1', c1', u1', hv', hg1', r0, r1, hu⟩ := sends_at (hs5'.out.mod hm6 (fun _ _ => id)) (i := 0) (x := (7, Q)) rfl
  obtain ⟨hv1, -, hv2⟩ := Value.slice.inj hv'
  cases hv1
  subst hv2
  have hu : w6.ownsRow w1.heap.size 5 1 u1' Q.length (bcells Q) := hu
  obtain ⟨g4, c4, hv4, hg4, hc4a, hc4b, hby⟩ := own_data hu hQb.out (by have := hQl.out; omega)
  subst hv4
  have r0 : w6.cell? ⟨g1, 0, none⟩ = some (.int .i64 7) := r0
  have r1 : w6.cell? ⟨g1, 1, none⟩ = some (.slice (some ⟨g4, 0, none⟩) Q.length c4) := r1
  have x0 := cell_of_block hq6 0 (v := .slice (some ⟨g1, 0, none⟩) 1 c1) rfl
  have x2 := cell_of_block hq6 2 (v := .int .i64 1000000001) rfl
  have z3 := cell_of_block ho6 3 (v := .int .i64 0) rfl
  have hd6 := hd5.out.quiet hm6
  have cv := conv_bytes (cap := c4) rfl hby
  have hcvx := hide (fun wx (hm : Mod NoB w6 wx) => conv_bytes (cap := c4) rfl (hby.mod hm id))
  have hcq := hide (fun (wx : World) (base : Nat) (g c : Nat) (h : wx.ownsRow base 5 1 (.slice (some ⟨g, 0, none⟩) Q.length c) Q.length (bcells Q)) => h)
  obtain ⟨SQ, hSQ⟩ : ∃ SQ, strB Q = SQ := ⟨_, rfl⟩
  rw [hSQ] at cv hcvx
  have hqy : ∀ wx, Calls Tryz.prog 21 #[.int .u64 5] wx fun e w' => ∃ g c, e = .returned (.slice (some ⟨g, 0, none⟩) Q.length c) ∧ (convert 23 9 (.slice (some ⟨g, 0, none⟩) Q.length c)).run Tryz.prog w' = .ok (.string SQ) w' ∧ Mod NoB wx w' := by
    intro wx
    refine (query_any 5 (by decide) wx).mono ?_
    rintro e w' ⟨v, rfl, hown, hm⟩
    rw [hQ.out] at hown
    obtain ⟨g, c, hv, _, _, _, hb⟩ := own_data hown hQb.out (by have := hQl.out; omega)
    subst hv
    exact ⟨g, c, rfl, by rw [← hSQ]; exact conv_bytes rfl hb, hm⟩
  have hdc : ∀ wx, Mod NoB w6 wx → Calls Tryz.prog 17 #[at0 P.b] wx fun e w' => e = .returned (.int .i64 1) ∧ wx = w' := by
    intro wx hm
    have := dchosen_any P2 D2 wx (hd6.quiet hm)
    have hb2 : P2.b = P.b := hmw5.out.b
    rw [hb2, hch.out] at this
    exact this
  have lq6 := lt_of_block hq6
  have lo6 := lt_of_block ho6
  have lr6 := lt_of_cell r0
  have hmf := hide (hmw5.out.m.into hm6 (S := fpD P) (fun _ f => f.elim))
  replace hqy := hide hqy
  replace hdc := hide hdc
  replace hSQ := hide hSQ
  replace hu := hide hu
  replace hby := hide hby
  replace hd6 := hide hd6
  replace hq6 := hide hq6
  replace ho6 := hide ho6
  clear hcq hm6 hv' hg1' hg4 hc4a hc4b
  have hm0 := hide ((Mod.refl NoB w6).drew)
  go_region_held (fun w' => w'.cell? ⟨w2.heap.size, 0, none⟩ = some (.slice (some ⟨g1, 0, none⟩) 1 c1) ∧ w'.cell? ⟨g1, 0, none⟩ = some (.int .i64 7) ∧ w'.cell? ⟨g1, 1, none⟩ = some (.slice (some ⟨g4, 0, none⟩) Q.length c4) ∧ w'.cell? ⟨w2.heap.size, 2, none⟩ = some (.int .i64 1000000001) ∧ w'.cell? ⟨w5.heap.size, 3, none⟩ = some (.int .i64 0) ∧ (convert 23 9 (.slice (some ⟨g4, 0, none⟩) Q.length c4)).run Tryz.prog w' = .ok (.string SQ) w')
    (first | with_reducible exact ⟨hm0.out.cellAt id x0, hm0.out.cellAt id r0, hm0.out.cellAt id r1, hm0.out.cellAt id x2, hm0.out.cellAt id z3, hcvx.out _ hm0.out⟩ | with_reducible exact ⟨x0, r0, r1, x2, z3, cv⟩ | with_reducible exact ⟨hma.out.cellAt id x0, hma.out.cellAt id r0, hma.out.cellAt id r1, hma.out.cellAt id x2, hma.out.cellAt id z3, hcvx.out _ hma.out⟩ | go_keep)
    (first
      | (go_at_call 21; (with_reducible refine (hqy.out w6.drew).mono ?_); rintro e wa ⟨gq, cq, rfl, hconv, hma⟩; replace hma := hide ((Mod.refl NoB w6).drew.trans hma))
      | (go_at_call 17; (with_reducible refine (hdc.out wa hma.out).mono ?_); rintro e wb ⟨rfl, rfl⟩))
  all_goals
    go_wp2_with fail
    go_ret
    exact ⟨rfl, (hm1.out.into (hmf.out.into hma.out (S := fpD P) (fun _ f => f.elim)) (fun k hk => Or.inr (hfb.out k hk)))⟩
end Go.Proofs.YtkajhggdgpbfeaaGreatDoor

namespace Go.Proofs.YtkajhggdgpbfeaaGreatDoor
set_option linter.unusedSimpArgs false
open Go.Joins Go.ChangeShapes Go.WideShapes Go.RowKit Go.Deep Go.ChangeAt

section
variable {H : Type} {enc : TypeId × Value → H} {P : Program} {w : World} {base : Nat} {spare : Nat → Bool} {held : Bool}
theorem open_agg5 {r : Reach} {b0 : Nat} {t : TypeId} {f0 f1 f2 f3 f4 : Field} {v : Value} {d : DataW H} {p : List MemPlace} (hs : P.underlying t = some (.struct #[f0, f1, f2, f3, f4])) (hone : oneCellFields P #[f0, f1, f2, f3, f4] = true) (hC : P.cellsOf t = 5)
    (hv : Value.okWide P w r b0 t v) (h : DataW.Trod enc P w base spare held t v d p) :
    ∃ (v0 v1 v2 v3 v4 : Value) (y0 y1 y2 y3 y4 : DataW H × List MemPlace) (n : Nat), v = .agg #[v0, v1, v2, v3, v4] ∧
      DataW.trod enc P w base spare held n f0.type [v0] = some y0 ∧ DataW.trod enc P w base spare held n f1.type [v1] = some y1 ∧ DataW.trod enc P w base spare held n f2.type [v2] = some y2 ∧ DataW.trod enc P w base spare held n f3.type [v3] = some y3 ∧ DataW.trod enc P w base spare held n f4.type [v4] = some y4 := by
  obtain ⟨cs, rfl, hsz⟩ := okWide_struct hs hv
  obtain ⟨l⟩ := cs
  match l, hsz.trans hC with
  | [c0, c1, c2, c3, c4], _ =>
    obtain ⟨fuel, hf⟩ := h
    obtain ⟨xs, n, _, hx, _, hlen, hg⟩ := DataW.trod_struct hs hf
    obtain ⟨o0, k0⟩ := hone_of hone 0 f0 rfl
    obtain ⟨o1, k1⟩ := hone_of hone 1 f1 rfl
    obtain ⟨o2, k2⟩ := hone_of hone 2 f2 rfl
    obtain ⟨o3, k3⟩ := hone_of hone 3 f3 rfl
    obtain ⟨o4, k4⟩ := hone_of hone 4 f4 rfl
    match xs, hlen with
    | [y0, y1, y2, y3, y4], _ =>
      exact ⟨c0, c1, c2, c3, c4, y0, y1, y2, y3, y4, n, rfl, by simpa [Value.cells, o0, k0] using hg 0 f0 rfl, by simpa [Value.cells, o1, k1] using hg 1 f1 rfl, by simpa [Value.cells, o2, k2] using hg 2 f2 rfl, by simpa [Value.cells, o3, k3] using hg 3 f3 rfl, by simpa [Value.cells, o4, k4] using hg 4 f4 rfl⟩
end
theorem wf_u8 {z : Int} (h : (Lit.int .u8 z).wf = true) : 0 ≤ z ∧ z < 256 := by
  have := bounds_u8 h
  omega
theorem wf_u64 {z : Int} (h : (Lit.int .u64 z).wf = true) : 0 ≤ z ∧ z < 18446744073709551616 := by
  have := bounds_u64 h
  omega
/-- Bytes handed in, as a slice. -/
theorem open_data {H : Type} {enc : TypeId × Value → H} {P : Program} {w : World} {t e : TypeId} {n : Nat} {v : Value} {x : DataW H × List MemPlace} (ht : P.underlying t = some (.slice e)) (he : P.underlying e = some (.int .u8)) (hc : P.cellsOf e = 1)
    (h : DataW.trod enc P w 0 (fun _ => true) true n t [v] = some x) : ∃ (p : Option Addr) (c : Nat) (l : List Nat), v = .slice p l.length c ∧ DataAt w v l ∧ (∀ bd off, p = some ⟨bd, off, none⟩ → 0 < l.length → bd < w.heap.size) := by
  rcases Go.ChangeShapes.open_ints ht he hc h with ⟨hcs, _⟩ | ⟨a, len, cap, zs, hcs, _, hl, hm, hzl, _, hcell, hwf⟩
  · simp at hcs
    exact ⟨none, 0, [], hcs, ⟨none, 0, hcs, by simp, fun h => by simp at h⟩, fun bd off e => by cases e⟩
  · simp at hcs
    unfold maxLen at hm
    simp at hzl
    obtain ⟨l, hlv⟩ : ∃ l, (zs.take len).map Int.toNat = l := ⟨_, rfl⟩
    have hll : l.length = len := by rw [← hlv]; simp; omega
    have hb : ∀ j, j < len → w.cell? (a.add j) = some (.int .u8 ((l.getD j 0 : Nat) : Int)) := fun j hj => by
      have h0 := hcell j (by omega)
      rw [h0]
      have hw := wf_u8 (hwf (zs.getD j 0) (by rw [List.getD_eq_getElem?_getD, List.getElem?_eq_getElem (by omega)]; exact List.getElem_mem _))
      have : ((l.getD j 0 : Nat) : Int) = zs.getD j 0 := by
        rw [← hlv]
        simp only [List.getD_eq_getElem?_getD, List.getElem?_map, List.getElem?_take_of_lt hj] at hw ⊢
        rw [List.getElem?_eq_getElem (by omega)] at hw ⊢
        simp at hw ⊢
        omega
      rw [this]
    have hlt : ∀ c ∈ l, c < 256 := fun c hc => by
      rw [← hlv] at hc
      obtain ⟨z, hz, rfl⟩ := List.mem_map.1 hc
      have := wf_u8 (hwf z (List.mem_of_mem_take hz))
      omega
    refine ⟨some a, cap, l, by rw [hll]; exact hcs, ⟨some a, cap, by rw [hll]; exact hcs, by omega, fun h0 => ?_⟩, fun bd off e h0 => ?_⟩
    · obtain ⟨b, off, spot⟩ := a
      have hspot : spot = none := by simpa [Addr.add] using World.cell?_spot (hb 0 (by omega))
      subst hspot
      refine ⟨b, off, rfl, by omega, by omega, ⟨fun j hj => ?_, hlt⟩⟩
      have := hb j (by omega)
      rw [add_plain] at this
      exact this
    · cases e
      have := hb 0 (by omega)
      rw [add_plain] at this
      exact World.block_lt_of_cell? w _ this
set_option maxRecDepth 100000 in
theorem open_ev {H : Type} {enc : TypeId × Value → H} {w : World} {r : Reach} {b0 : Nat} {v : Value} {d : DataW H} {ps : List MemPlace} (hv : Value.okWide Tryz.prog w r b0 33 v) (h : DataW.Trod enc Tryz.prog w 0 (fun _ => true) true 33 v d ps) :
    ∃ (k hh a : Int) (draw : Nat) (p : Option Addr) (c : Nat) (l : List Nat), v = evV k hh a draw (.slice p l.length c) ∧ DataAt w (.slice p l.length c) l ∧ I64 k ∧ I64 hh ∧ I64 a ∧ draw < 18446744073709551616 := by
  obtain ⟨v0, v1, v2, v3, v4, y0, y1, y2, y3, y4, n, rfl, h0, h1, h2, h3, h4⟩ := open_agg5 Tryz.underlying33 (by kernel_rfl) (by kernel_rfl) hv h
  obtain ⟨z0, e0, _, w0⟩ := DataW.trod_int Tryz.underlying3 h0
  obtain ⟨z1, e1, _, w1⟩ := DataW.trod_int Tryz.underlying2 h1
  obtain ⟨z2, e2, _, w2⟩ := DataW.trod_int Tryz.underlying3 h2
  obtain ⟨z3, e3, _, w3⟩ := DataW.trod_int Tryz.underlying30 h3
  simp at e0 e1 e2 e3
  subst e0 e1 e2 e3
  obtain ⟨p, c, l, rfl, hd, _⟩ := open_data Tryz.underlying23 Tryz.underlying5 (by kernel_rfl) h4
  have hu := wf_u64 w3
  exact ⟨z0, z1, z2, z3.toNat, p, c, l, by unfold evV; rw [Int.toNat_of_nonneg hu.1], hd, i64_of_wf w0, i64_of_wf w1, i64_of_wf w2, (Int.toNat_lt hu.1).2 hu.2⟩
theorem do_nil (k h a : Int) (draw : Nat) (p : Option Addr) (n c : Nat) (w : World) :
    Calls Tryz.prog 15 #[.pointer none, evV k h a draw (.slice p n c)] w fun e w' => e = .returned (.tuple #[.agg #[.slice none 0 0, .int .i64 0, .int .i64 0, .int .i64 0], .int .i64 1]) ∧ Mod NoB w w' := by
  go_enter Tryz.func15, Tryz.ntmps15
  go_wp2
  exact bodyPost_ret (v := .tuple #[.agg #[.slice none 0 0, .int .i64 0, .int .i64 0, .int .i64 0], .int .i64 1]) (by simp [results, Tryz.results15, go_sem]) rfl ⟨rfl, ((Mod.refl _ _).alloc _).alloc _⟩
end Go.Proofs.YtkajhggdgpbfeaaGreatDoor

namespace Go.Proofs.YtkajhggdgpbfeaaGreatDoor
open Go.RowKit

abbrev pair2 (x y : Int) : Array Value := #[.int .i64 x, .int .i64 y]
theorem set2 {W : World} {B : Nat} {x0 x1 : Value} {T : TypeId} (h : W.heap[B]? = some (.cells #[x0, x1] T (0, 0))) (y0 y1 : Value) :
    ∃ W2, (W.setCell ⟨B, 0, none⟩ y0).setCell ⟨B, 1, none⟩ y1 = W2 ∧ W2.heap[B]? = some (.cells #[y0, y1] T (0, 0)) ∧ Mod (· = B) W W2 := by
  refine ⟨_, rfl, ?_, ((Mod.refl _ _).set1 _ _).set1 _ _⟩
  have h1 := heap_setCell_eq (o := 0) h y0
  have h2 := heap_setCell_eq (o := 1) h1 y1
  rw [h2]
  rfl

/-- How the document's numbers end. -/
def NumsOut (ns : List (List UInt8)) (e : Ending) : Prop :=
  (numsE ns = 0 ∧ e = .returned (.tuple #[.agg (pair2 ((numsV ns ns.length).getD 0 0) ((numsV ns ns.length).getD 1 0)), .int .i64 0])) ∨
  (numsE ns ≠ 0 ∧ ∃ x y : Int, e = .returned (.tuple #[.agg (pair2 x y), .int .i64 (numsE ns)]))

set_option maxRecDepth 100000 in
set_option maxHeartbeats 8000000 in
theorem rnumbers_any (ns : List (List UInt8)) (g o cap : Nat) (w : World) (hw : ∀ j s, ns[j]? = some s → w.cell? ⟨g, o + j, none⟩ = some (.string (bs s))) (hn2 : ns.length ≤ 2) (hlen : ∀ s ∈ ns, s.length ≤ 1000000) :
    Calls Tryz.prog 111 #[.slice (some ⟨g, o, none⟩) ns.length cap] w fun e w' => NumsOut ns e ∧ Mod NoB w w' := by
  have hcw := hide hw
  have hnum := fun (i : Nat) (s : List UInt8) (h : ns[i]? = some s) w' => rnumber_any s w' (hlen s (List.mem_of_getElem? h))
  replace hnum := hide hnum
  have hB0 : ((w.alloc (.cells #[.int .i64 0, .int .i64 0] 232)).alloc (.cells #[.int .i64 0, .int .i64 0] 232)).heap[w.heap.size]? = some (.cells (pair2 0 0) 232 (0, 0)) := (heap_alloc_old (by simp) _).trans (heap_alloc_new _ _)
  have hB1 : ((w.alloc (.cells #[.int .i64 0, .int .i64 0] 232)).alloc (.cells #[.int .i64 0, .int .i64 0] 232)).heap[w.heap.size + 1]? = some (.cells (pair2 0 0) 232 (0, 0)) := by
    have := heap_alloc_new (w.alloc (.cells #[.int .i64 0, .int .i64 0] 232)) (.cells #[.int .i64 0, .int .i64 0] 232)
    rwa [World.size_alloc] at this
  have hm0 : Mod NoB w ((w.alloc (.cells #[.int .i64 0, .int .i64 0] 232)).alloc (.cells #[.int .i64 0, .int .i64 0] 232)) := ((Mod.refl _ _).alloc _).alloc _
  replace hB0 := hide hB0
  replace hB1 := hide hB1
  replace hm0 := hide hm0
  clear hw
  go_enter Tryz.func111, Tryz.ntmps111
  go_wp2_with fail
  go_loopw [5] (fun vi wr => ∃ (i : Nat), i ≤ ns.length ∧ vi = .int .i64 i ∧ wr.heap[w.heap.size]? = some (.cells (pair2 0 0) 232 (0, 0)) ∧ wr.heap[w.heap.size + 1]? = some (.cells (pair2 ((numsV ns i).getD 0 0) ((numsV ns i).getD 1 0)) 232 (0, 0)) ∧ (∀ j, j < i → (numR (ns.getD j [])).2 = 0) ∧ Mod NoB w wr) (fun vi _ => ns.length - (intOf vi).toNat)
  case atStart => exact ⟨0, by omega, rfl, hB0.out, hB1.out, by omega, hm0.out⟩
  case round =>
    obtain ⟨i, hil, rfl, hb0, hb1, hz, hm⟩ := hrel
    by_cases hlt : i < ns.length
    · obtain ⟨s, hs⟩ : ∃ s, ns[i]? = some s := ⟨ns[i], by simp [hlt]⟩
      have hcs : wr.cell? ⟨g, o + i, none⟩ = some (.string (bs s)) := hm.cellAt id (hcw.out i s hs)
      have hcall := hnum.out i s hs wr
      have hsn := hide (numsV_succ hs)
      have hnl := hide (numsV_len (ns := ns) (i := i) (by omega))
      have hgd : Hid (ns.getD i [] = s) := hide (by simp [List.getD, hs])
      obtain ⟨v, er, hr⟩ : ∃ v er, numR s = (v, er) := ⟨_, _, rfl⟩
      rw [hr] at hcall hsn
      replace hcall := hide hcall
      replace hr := hide hr
      replace hs := hide hs
      replace hm := hide hm
      replace hz := hide hz
      replace hb0 := hide hb0
      replace hb1 := hide hb1
      have hi0 : (0 : Int) ≤ (i : Int) := by omega
      have hi1 : (i : Int) < (ns.length : Int) := by omega
      go_wp2_with fail
      refine hcall.out.mono ?_
      rintro e w2 ⟨rfl, hm2⟩
      have hb0' := hm2.heap hb0.out id
      have hb1' := hm2.heap hb1.out id
      replace hm := hide (hm.out.trans hm2)
      have hB : w.heap.size < w2.heap.size := lt_of_block hb0'
      clear hm2
      have a0 := cell_of_block hb1' 0 rfl
      have a1 := cell_of_block hb1' 1 rfl
      have c0 := cell_of_block hb0' 0 (v := .int .i64 0) rfl
      have c1 := cell_of_block hb0' 1 (v := .int .i64 0) rfl
      have f0 := frozen_of_block hb1' 0
      have f1 := frozen_of_block hb1' 1
      have d0 := frozen_of_block hb0' 0
      have d1 := frozen_of_block hb0' 1
      by_cases he : er = 0
      · subst he
        have hz2' : Hid (∀ j, j < i + 1 → (numR (ns.getD j [])).2 = 0) := hide (by
          intro j hj
          by_cases hji : j < i
          · exact hz.out j hji
          · obtain rfl : j = i := by omega
            rw [hgd.out, hr.out])
        have hsto : ∃ u, w2.cell? ⟨w.heap.size + 1, i, none⟩ = some u := by
          rcases (by omega : i = 0 ∨ i = 1) with rfl | rfl
          · exact ⟨_, a0⟩
          · exact ⟨_, a1⟩
        obtain ⟨u, hu⟩ := hsto
        have hfu := frozen_of_block hb1' i
        have hset := heap_setCell_eq (o := i) hb1' (.int .i64 v)
        have hset2 : Hid ((w2.setCell ⟨w.heap.size + 1, i, none⟩ (.int .i64 v)).heap[w.heap.size + 1]? = some (.cells (pair2 ((numsV ns (i + 1)).getD 0 0) ((numsV ns (i + 1)).getD 1 0)) 232 (0, 0))) := hide (by
          rw [hset, hsn.out]
          have hl := hnl.out
          rcases (by omega : i = 0 ∨ i = 1) with rfl | rfl
          · have h0 : numsV ns 0 = [] := rfl
            rw [h0]; rfl
          · obtain ⟨x, hx⟩ : ∃ x, numsV ns 1 = [x] := List.length_eq_one_iff.1 hl
            rw [hx]; rfl)
        have hs0 : Hid ((w2.setCell ⟨w.heap.size + 1, i, none⟩ (.int .i64 v)).heap[w.heap.size]? = some (.cells (pair2 0 0) 232 (0, 0))) := hide ((heap_setCell_ne (by show w.heap.size ≠ w.heap.size + 1; omega) _).trans hb0')
        have hms : Hid (Mod NoB w (w2.setCell ⟨w.heap.size + 1, i, none⟩ (.int .i64 v))) := hide (hm.out.setCell (Or.inr (by show w.heap.size ≤ w.heap.size + 1; omega)) _)
        have hi2 : (i : Int) < 2 := by omega
        clear hset a0 a1 c0 c1 f0 f1 d0 d1 hb0' hb1'
        go_wp2_with fail
        go_roundw
        case rel => exact ⟨i + 1, by omega, by go_num, hs0.out, hset2.out, hz2'.out, hms.out⟩
        case measure => simp [intOf]; omega
      · have heb : (er != 0) = true := by simpa [bne_iff_ne] using he
        have hne : Hid (numsE ns = er) := hide (by
          have := numsE_at hz.out hlt (by rw [hgd.out, hr.out]; exact he)
          rw [this, hgd.out, hr.out])
        obtain ⟨x, hx⟩ : ∃ x, (numsV ns i).getD 0 0 = x := ⟨_, rfl⟩
        obtain ⟨y, hy⟩ : ∃ y, (numsV ns i).getD 1 0 = y := ⟨_, rfl⟩
        rw [hx] at a0
        rw [hy] at a1
        replace hx := hide hx
        replace hy := hide hy
        obtain ⟨W2, hW2, hb2, hm2⟩ := set2 hb0' (.int .i64 x) (.int .i64 y)
        have hmf : Hid (Mod NoB w W2) := hide (hm.out.into hm2 (fun b e => Or.inr (by omega)))
        replace hW2 := hide hW2
        replace hb2 := hide hb2
        replace hb0' := hide hb0'
        replace hb1' := hide hb1'
        clear hm2
        go_wp2
        rw [hW2.out]
        clear a0 a1 c0 c1 f0 f1 d0 d1
        have b0 := cell_of_block hb2.out 0 (v := .int .i64 x) rfl
        have b1 := cell_of_block hb2.out 1 (v := .int .i64 y) rfl
        refine bodyPost_ret (v := .tuple #[.agg (pair2 x y), .int .i64 er]) (by simp [results, Tryz.results111, go_sem, b0, b1]) rfl ⟨Or.inr ⟨by rw [hne.out]; exact he, x, y, by rw [hne.out]⟩, hmf.out⟩
    · obtain rfl : i = ns.length := by omega
      have a0 := cell_of_block hb1 0 rfl
      have a1 := cell_of_block hb1 1 rfl
      have c0 := cell_of_block hb0 0 (v := .int .i64 0) rfl
      have c1 := cell_of_block hb0 1 (v := .int .i64 0) rfl
      have d0 := frozen_of_block hb0 0
      have d1 := frozen_of_block hb0 1
      have hne := hide (numsE_all hz)
      obtain ⟨x, hx⟩ : ∃ x, (numsV ns ns.length).getD 0 0 = x := ⟨_, rfl⟩
      obtain ⟨y, hy⟩ : ∃ y, (numsV ns ns.length).getD 1 0 = y := ⟨_, rfl⟩
      rw [hx] at a0
      rw [hy] at a1
      replace hx := hide hx
      replace hy := hide hy
      obtain ⟨W2, hW2, hb2, hm2⟩ := set2 hb0 (.int .i64 x) (.int .i64 y)
      have hmf : Hid (Mod NoB w W2) := hide (hm.into hm2 (fun b e => Or.inr (by omega)))
      replace hW2 := hide hW2
      replace hb2 := hide hb2
      replace hb0 := hide hb0
      replace hb1 := hide hb1
      replace hz := hide hz
      clear hm2
      go_wp2
      rw [hW2.out]
      clear a0 a1 c0 c1 d0 d1
      have b0 := cell_of_block hb2.out 0 (v := .int .i64 x) rfl
      have b1 := cell_of_block hb2.out 1 (v := .int .i64 y) rfl
      refine bodyPost_ret (v := .tuple #[.agg (pair2 x y), .int .i64 0]) (by simp [results, Tryz.results111, go_sem, b0, b1]) rfl ⟨Or.inl ⟨hne.out, by rw [hx.out, hy.out]⟩, hmf.out⟩
end Go.Proofs.YtkajhggdgpbfeaaGreatDoor

