/- The document's example of chapter 17. An event handed in; a daemon that isn't there. Acts handed in: a row of events. Acts looked at: Great, event (contracts). The same is done (the document's Same), contract. -/
import Derived.Test.YtpjfiplejhbdfaaGreatDoorPUbb
import Derived.Test.YtpjfiplejhbdfaaGreatDoorPUbe
import Derived.Test.YtpjfiplejhbdfaaGreatDoorPUak
import Derived.Deep.RegionHeld
import Derived.Lib.SmallJoins
import Derived.Deep.Fields
import Derived.ChangeSlices
import Derived.Deep.RegionHeld3
namespace Go.Proofs.YtpjfiplejhbdfaaGreatDoor
set_option linter.unusedSimpArgs false
open Go.RowKit

def exText : List UInt8 := [115, 101, 114, 118, 101, 114, 32, 55, 10, 113, 117, 111, 114, 117, 109, 32, 49, 10, 112, 111, 108, 108, 32, 52, 32, 49, 54, 10, 100, 101, 108, 97, 121, 32, 49, 48, 48, 48, 10, 115, 108, 101, 119, 32, 53, 48, 48, 10]
def exCfg : Cfg := ⟨[7], 1, 4, 16, 1000, 500⟩
theorem ex_1 : (parseR exText).1 = exCfg := by kernel_rfl
theorem ex_2 : (parseR exText).2.2 = 0 := by kernel_rfl
theorem exOut : newOut exText 0 0 = .inr exCfg := by
  unfold newOut
  rw [if_neg (by rw [ex_2]; simp), if_neg (by decide), ex_1]
def exD0 : DaemonS := newS exCfg 0 0
def exE1 : EvS := ⟨0, 0, 0, 5, []⟩
def exD1 : DaemonS := (doS exD0 exE1).1
def exE2 : EvS := ⟨1, 10, 7, 0, (goodP 5 4294967296 4294967296).bytes⟩
theorem ex_e1 : errS exD0 exE1 = 0 := by kernel_rfl
theorem ex_o1 : (doS exD0 exE1).2 = ⟨[(7, (queryP 5).bytes)], 0, 1000000001, 0⟩ := by kernel_rfl
theorem ex_e2 : errS exD1 exE2 = 0 := by kernel_rfl
theorem ex_r2 : (doS exD1 exE2).2.reason = 0 := by kernel_rfl
theorem ex_c2 : (doS exD1 exE2).1.chosen = 1 := by kernel_rfl
theorem ex_s2 : (doS exD1 exE2).2.sends = [] := by kernel_rfl
theorem ex_lt1 : ∀ c ∈ (queryP 5).bytes, c < 256 := by decide +kernel
theorem ex_lt2 : ∀ c ∈ (goodP 5 4294967296 4294967296).bytes, c < 256 := by decide +kernel
theorem ex_ok : exD0.Ok ∧ exD0.Cnt 0 := newS_ok (by kernel_rfl) (by kernel_rfl)
theorem example_any (w : World) : Calls Tryz.prog 32 #[] w fun e w' => e = .returned (.string (bs exText)) ∧ w = w' := by
  go_enter Tryz.func32, Tryz.ntmps32
  go_wp2
  go_ret
  exact ⟨rfl, rfl⟩
set_option maxRecDepth 100000 in
set_option maxHeartbeats 8000000 in
theorem alive_any (w : World) (hL : LaidN w) : Calls Tryz.prog 10 #[] w fun e w' => e = .returned (.bool true) ∧ Mod NoB w w' := by
  have hnew := hide (new_any exText (by decide) 0 0 w hL)
  have hex := hide (example_any w)
  obtain ⟨T, hT⟩ : ∃ T, bs exText = T := ⟨_, rfl⟩
  rw [hT] at hnew hex
  replace hT := hide hT
  clear hL
  go_enter Tryz.func10, Tryz.ntmps10
  go_wp2_with fail
  refine hex.out.mono ?_
  rintro e w' ⟨rfl, rfl⟩
  clear hex
  go_wp2_with fail
  refine hnew.out.mono ?_
  rintro e w1 ⟨hm1, h⟩
  clear hnew
  rcases h with ⟨line, er, rfl, ho⟩ | ⟨P, c, rfl, ho, hd, hf⟩
  · rw [exOut] at ho
    cases ho
  rw [exOut] at ho
  cases ho
  have hd : DO w1 P exD0 := hd
  obtain ⟨Q, hQ⟩ : ∃ Q, (queryP 5).bytes = Q := ⟨_, rfl⟩
  have h1 : Calls Tryz.prog 14 #[at0 P.b, .agg #[.int .i64 0, .int .i64 0, .int .i64 0, .int .u64 5, .slice none 0 0]] w1 (DoPost P exD1 ⟨[(7, Q)], 0, 1000000001, 0⟩ 0 w1) := by
    have h := do_any P exD0 ex_ok.1 (N := 0) ex_ok.2 (by decide) 0 0 0 (by decide) (by decide) 5 (by decide) none 0 0 [] w1 hd ⟨none, 0, rfl, by simp, fun h => by simp at h⟩ (fun bd off e _ => by cases e)
    rw [show errS exD0 ⟨0, 0, 0, 5, []⟩ = 0 from ex_e1, show (doS exD0 ⟨0, 0, 0, 5, []⟩).2 = ⟨[(7, (queryP 5).bytes)], 0, 1000000001, 0⟩ from ex_o1, hQ] at h
    exact h
  have hQl : Q.length = 48 := by rw [← hQ]; rfl
  have hQb : ∀ c ∈ Q, c < 256 := by rw [← hQ]; exact ex_lt1
  have hfb : ∀ k, fpD P k → w.heap.size ≤ k := hf
  replace hm1 := hide hm1
  replace hfb := hide hfb
  replace h1 := hide h1
  replace hQ := hide hQ
  replace hQl := hide hQl
  replace hQb := hide hQb
  replace hd := hide hd
  clear hf
  go_wp2_with fail
  refine h1.out.mono ?_
  rintro e w2 ⟨v1, P1, rfl, hd1, ht1, hs1⟩
  clear h1
  obtain ⟨g1, c1, u1, hv1, hg1, hc10, hc11, hu1⟩ := sends_at hs1 (i := 0) (x := (7, Q)) rfl
  subst hv1
  go_upto_region 5 with (fail)
  have hm3 : Mod NoB w2 (w2.alloc (.cells #[.slice (some ⟨g1, 0, none⟩) 1 c1, .int .i64 0, .int .i64 1000000001, .int .i64 0] 44)) := (Mod.refl _ _).alloc _
  have ho3 := heap_alloc_new w2 (.cells #[.slice (some ⟨g1, 0, none⟩) 1 c1, .int .i64 0, .int .i64 1000000001, .int .i64 0] 44)
  have hs3 : (w2.alloc (.cells #[.slice (some ⟨g1, 0, none⟩) 1 c1, .int .i64 0, .int .i64 1000000001, .int .i64 0] 44)).heap.size = w2.heap.size + 1 := by simp
  generalize w2.alloc (.cells #[.slice (some ⟨g1, 0, none⟩) 1 c1, .int .i64 0, .int .i64 1000000001, .int .i64 0] 44) = w3 at *
  have hgood := hide (sgood_any 5 4294967296 4294967296 (by decide) (by decide) (by decide) w3)
  replace hm3 := hide hm3
  replace ho3 := hide ho3
  replace hd1 := hide hd1
  replace ht1 := hide ht1
  replace hs1 := hide hs1
  replace hu1 := hide hu1
  replace hg1 := hide hg1
  go_wp2_with fail
  refine hgood.out.mono ?_
  rintro e w4 ⟨v2, rfl, hown, hm4⟩
  obtain ⟨B, hB⟩ : ∃ B, (goodP 5 4294967296 4294967296).bytes = B := ⟨_, rfl⟩
  have hBl : B.length = 48 := by rw [← hB]; rfl
  have hBb : ∀ c ∈ B, c < 256 := by rw [← hB]; exact ex_lt2
  rw [hB] at hown
  obtain ⟨g2, c2, hv2, hg2, _, _, _⟩ := own_data hown hBb (by omega)
  have hda := own_dataAt hown hBb (by omega) (by omega)
  subst hv2
  have hd4 := hd1.out.quiet (hm3.out.trans hm4)
  have hlt1 := hd1.out.lt
  have hok1 := ex_ok.1.do (e := exE1) (by decide) (N := 0) ex_ok.2 (by decide)
  obtain ⟨D2, ck, wk, hD2⟩ : ∃ D2 ck wk, doS exD1 ⟨1, 10, 7, 0, B⟩ = (D2, ⟨[], ck, wk, 0⟩) ∧ D2.chosen = 1 ∧ errS exD1 ⟨1, 10, 7, 0, B⟩ = 0 := by
    subst hB
    refine ⟨(doS exD1 exE2).1, (doS exD1 exE2).2.clock, (doS exD1 exE2).2.wake, ?_, ex_c2, ex_e2⟩
    show doS exD1 exE2 = _
    rw [← ex_r2, ← ex_s2]
  obtain ⟨hD2, hch, her⟩ := hD2
  have h2 : Calls Tryz.prog 14 #[at0 P1.b, .agg #[.int .i64 1, .int .i64 10, .int .i64 7, .int .u64 0, .slice (some ⟨g2, 0, none⟩) B.length c2]] w4 (DoPost P1 D2 ⟨[], ck, wk, 0⟩ 0 w4) := by
    have h := do_any P1 exD1 hok1.1 (N := 0 + 1) hok1.2 (by decide) 1 10 7 (by decide) (by decide) 0 (by decide) (some ⟨g2, 0, none⟩) B.length c2 B w4 hd4 hda (fun bd off e _ => by cases e; have := hlt1 _ fpD.b; omega)
    rw [her, hD2] at h
    exact h
  rw [ht1.out.b] at h2
  have hb1 : P1.b = P.b := ht1.out.b
  have hPb : P.b < w1.heap.size := hd.out.lt _ fpD.b
  have hs4 := hs1.out.mod (hm3.out.trans hm4) (fun _ _ => id)
  have ho4 := hm4.heap ho3.out id
  have hmw4 := hide (ht1.out.thenQ (hm3.out.trans hm4))
  replace hd4 := hide hd4
  replace h2 := hide h2
  replace hs4 := hide hs4
  replace ho4 := hide ho4
  replace hB := hide hB
  replace hBl := hide hBl
  replace hBb := hide hBb
  replace hD2 := hide hD2
  replace her := hide her
  replace hch := hide hch
  replace hb1 := hide hb1
  replace hlt1 := hide hlt1
  replace hown := hide hown
  replace hda := hide hda
  replace hok1 := hide hok1
  clear hgood hc10 hc11 hm3 ho3 hm4
  go_wp2_with fail
  refine h2.out.mono ?_
  rintro e w5 ⟨v3, P2, rfl, hd5, ht5, hs5⟩
  obtain ⟨p3, c3, hv3⟩ := hs5.slice
  subst hv3
  have hz2 : w1.heap.size ≤ w2.heap.size := ht1.out.m.size
  have ho5 := hd4.out.keepc ht5.m ho4.out (by rw [hb1.out]; omega) (by decide)
  have hs5' := hd4.out.keepSends ht5.m hs4.out (by rw [hb1.out]; omega)
  have hmw5 := hide (hmw4.out.trans ht5)
  replace hd5 := hide hd5
  replace ho5 := hide ho5
  replace hs5' := hide hs5'
  replace hs5 := hide hs5
  clear h2 hd4 ht5 hmw4
  go_upto_region 6 with (fail)
  have hm6 : Mod NoB w5 (w5.alloc (.cells #[.slice p3 0 c3, .int .i64 ck, .int .i64 wk, .int .i64 0] 44)) := (Mod.refl _ _).alloc _
  have ho6 := heap_alloc_new w5 (.cells #[.slice p3 0 c3, .int .i64 ck, .int .i64 wk, .int .i64 0] 44)
  generalize w5.alloc (.cells #[.slice p3 0 c3, .int .i64 ck, .int .i64 wk, .int .i64 0] 44) = w6 at *
  have hq6 := hm6.heap ho5.out id
  obtain ⟨g1', c1', u1', hv', hg1', r0, r1, hu⟩ := sends_at (hs5'.out.mod hm6 (fun _ _ => id)) (i := 0) (x := (7, Q)) rfl
  obtain ⟨hv1, -, hv2⟩ := Value.slice.inj hv'
  cases hv1
  subst hv2
  have hu : w6.ownsRow w1.heap.size 5 1 u1' Q.length (bcells Q) := hu
  obtain ⟨g4, c4, hv4, hg4, hc4a, hc4b, hby⟩ := own_data hu hQb.out (by have := hQl.out; omega)
  subst hv4
  have r0 : w6.cell? ⟨g1, 0, none⟩ = some (.int .i64 7) := r0
  have r1 : w6.cell? ⟨g1, 1, none⟩ = some (.slice (some ⟨g4, 0, none⟩) Q.length c4) := r1
  have x0 := cell_of_block hq6 0 (v := .slice (some ⟨g1, 0, none⟩) 1 c1) rfl
  have x2 := cell_of_block hq6 2 (v := .int .i64 1000000001) rfl
  have z3 := cell_of_block ho6 3 (v := .int .i64 0) rfl
  have hd6 := hd5.out.quiet hm6
  have cv := conv_bytes (cap := c4) rfl hby
  have hcvx := hide (fun wx (hm : Mod NoB w6 wx) => conv_bytes (cap := c4) rfl (hby.mod hm id))
  have hcq := hide (fun (wx : World) (base : Nat) (g c : Nat) (h : wx.ownsRow base 5 1 (.slice (some ⟨g, 0, none⟩) Q.length c) Q.length (bcells Q)) => h)
  obtain ⟨SQ, hSQ⟩ : ∃ SQ, strB Q = SQ := ⟨_, rfl⟩
  rw [hSQ] at cv hcvx
  have hqy : ∀ wx, Calls Tryz.prog 15 #[.int .u64 5] wx fun e w' => ∃ g c, e = .returned (.slice (some ⟨g, 0, none⟩) Q.length c) ∧ (convert 36 9 (.slice (some ⟨g, 0, none⟩) Q.length c)).run Tryz.prog w' = .ok (.string SQ) w' ∧ Mod NoB wx w' := by
    intro wx
    refine (query_any 5 (by decide) wx).mono ?_
    rintro e w' ⟨v, rfl, hown, hm⟩
    rw [hQ.out] at hown
    obtain ⟨g, c, hv, _, _, _, hb⟩ := own_data hown hQb.out (by have := hQl.out; omega)
    subst hv
    exact ⟨g, c, rfl, by rw [← hSQ]; exact conv_bytes rfl hb, hm⟩
  have hdc : ∀ wx, Mod NoB w6 wx → Calls Tryz.prog 34 #[at0 P.b] wx fun e w' => e = .returned (.int .i64 1) ∧ wx = w' := by
    intro wx hm
    have := dchosen_any P2 D2 wx (hd6.quiet hm)
    have hb2 : P2.b = P.b := hmw5.out.b
    rw [hb2, hch.out] at this
    exact this
  have lq6 := lt_of_block hq6
  have lo6 := lt_of_block ho6
  have lr6 := lt_of_cell r0
  have hmf := hide (hmw5.out.m.into hm6 (S := fpD P) (fun _ f => f.elim))
  replace hqy := hide hqy
  replace hdc := hide hdc
  replace hSQ := hide hSQ
  replace hu := hide hu
  replace hby := hide hby
  replace hd6 := hide hd6
  replace hq6 := hide hq6
  replace ho6 := hide ho6
  clear hcq hm6 hv' hg1' hg4 hc4a hc4b
  have hm0 := hide ((Mod.refl NoB w6).drew)
  go_region_held (fun w' => w'.cell? ⟨w2.heap.size, 0, none⟩ = some (.slice (some ⟨g1, 0, none⟩) 1 c1) ∧ w'.cell? ⟨g1, 0, none⟩ = some (.int .i64 7) ∧ w'.cell? ⟨g1, 1, none⟩ = some (.slice (some ⟨g4, 0, none⟩) Q.length c4) ∧ w'.cell? ⟨w2.heap.size, 2, none⟩ = some (.int .i64 1000000001) ∧ w'.cell? ⟨w5.heap.size, 3, none⟩ = some (.int .i64 0) ∧ (convert 36 9 (.slice (some ⟨g4, 0, none⟩) Q.length c4)).run Tryz.prog w' = .ok (.string SQ) w')
    (first | with_reducible exact ⟨hm0.out.cellAt id x0, hm0.out.cellAt id r0, hm0.out.cellAt id r1, hm0.out.cellAt id x2, hm0.out.cellAt id z3, hcvx.out _ hm0.out⟩ | with_reducible exact ⟨x0, r0, r1, x2, z3, cv⟩ | with_reducible exact ⟨hma.out.cellAt id x0, hma.out.cellAt id r0, hma.out.cellAt id r1, hma.out.cellAt id x2, hma.out.cellAt id z3, hcvx.out _ hma.out⟩ | go_keep)
    (first
      | (go_at_call 15; (with_reducible refine (hqy.out w6.drew).mono ?_); rintro e wa ⟨gq, cq, rfl, hconv, hma⟩; replace hma := hide ((Mod.refl NoB w6).drew.trans hma))
      | (go_at_call 34; (with_reducible refine (hdc.out wa hma.out).mono ?_); rintro e wb ⟨rfl, rfl⟩))
  all_goals
    go_wp2_with fail
    go_ret
    exact ⟨rfl, (hm1.out.into (hmf.out.into hma.out (S := fpD P) (fun _ f => f.elim)) (fun k hk => Or.inr (hfb.out k hk)))⟩
end Go.Proofs.YtpjfiplejhbdfaaGreatDoor

namespace Go.Proofs.YtpjfiplejhbdfaaGreatDoor
set_option linter.unusedSimpArgs false
open Go.Joins Go.ChangeShapes Go.WideShapes Go.RowKit Go.Deep Go.ChangeAt

section
variable {H : Type} {enc : TypeId × Value → H} {P : Program} {w : World} {base : Nat} {spare : Nat → Bool} {held : Bool}
end
theorem wf_u8 {z : Int} (h : (Lit.int .u8 z).wf = true) : 0 ≤ z ∧ z < 256 := by
  have := bounds_u8 h
  omega
theorem wf_u64 {z : Int} (h : (Lit.int .u64 z).wf = true) : 0 ≤ z ∧ z < 18446744073709551616 := by
  have := bounds_u64 h
  omega
/-- Bytes handed in, as a slice. -/
theorem open_data {H : Type} {enc : TypeId × Value → H} {P : Program} {w : World} {t e : TypeId} {n : Nat} {v : Value} {x : DataW H × List MemPlace} (ht : P.underlying t = some (.slice e)) (he : P.underlying e = some (.int .u8)) (hc : P.cellsOf e = 1)
    (h : DataW.trod enc P w 0 (fun _ => true) true n t [v] = some x) : ∃ (p : Option Addr) (c : Nat) (l : List Nat), v = .slice p l.length c ∧ DataAt w v l ∧ (∀ bd off, p = some ⟨bd, off, none⟩ → 0 < l.length → bd < w.heap.size) := by
  rcases Go.ChangeShapes.open_ints ht he hc h with ⟨hcs, _⟩ | ⟨a, len, cap, zs, hcs, _, hl, hm, hzl, _, hcell, hwf⟩
  · simp at hcs
    exact ⟨none, 0, [], hcs, ⟨none, 0, hcs, by simp, fun h => by simp at h⟩, fun bd off e => by cases e⟩
  · simp at hcs
    unfold maxLen at hm
    simp at hzl
    obtain ⟨l, hlv⟩ : ∃ l, (zs.take len).map Int.toNat = l := ⟨_, rfl⟩
    have hll : l.length = len := by rw [← hlv]; simp; omega
    have hb : ∀ j, j < len → w.cell? (a.add j) = some (.int .u8 ((l.getD j 0 : Nat) : Int)) := fun j hj => by
      have h0 := hcell j (by omega)
      rw [h0]
      have hw := wf_u8 (hwf (zs.getD j 0) (by rw [List.getD_eq_getElem?_getD, List.getElem?_eq_getElem (by omega)]; exact List.getElem_mem _))
      have : ((l.getD j 0 : Nat) : Int) = zs.getD j 0 := by
        rw [← hlv]
        simp only [List.getD_eq_getElem?_getD, List.getElem?_map, List.getElem?_take_of_lt hj] at hw ⊢
        rw [List.getElem?_eq_getElem (by omega)] at hw ⊢
        simp at hw ⊢
        omega
      rw [this]
    have hlt : ∀ c ∈ l, c < 256 := fun c hc => by
      rw [← hlv] at hc
      obtain ⟨z, hz, rfl⟩ := List.mem_map.1 hc
      have := wf_u8 (hwf z (List.mem_of_mem_take hz))
      omega
    refine ⟨some a, cap, l, by rw [hll]; exact hcs, ⟨some a, cap, by rw [hll]; exact hcs, by omega, fun h0 => ?_⟩, fun bd off e h0 => ?_⟩
    · obtain ⟨b, off, spot⟩ := a
      have hspot : spot = none := by simpa [Addr.add] using World.cell?_spot (hb 0 (by omega))
      subst hspot
      refine ⟨b, off, rfl, by omega, by omega, ⟨fun j hj => ?_, hlt⟩⟩
      have := hb j (by omega)
      rw [add_plain] at this
      exact this
    · cases e
      have := hb 0 (by omega)
      rw [add_plain] at this
      exact World.block_lt_of_cell? w _ this
end Go.Proofs.YtpjfiplejhbdfaaGreatDoor

namespace Go.Proofs.YtpjfiplejhbdfaaGreatDoor
set_option linter.unusedSimpArgs false
open Go.Joins Go.ChangeShapes Go.WideShapes Go.RowKit Go.Deep Go.ChangeAt

structure ActS where
  e : EvS
  good : Bool
def evS0 : EvS := ⟨0, 0, 0, 0, []⟩
/-- An act's cells at a place. -/
structure ActAt (w : World) (g o : Nat) (x : ActS) : Prop where
  ex : ∃ dp dc, w.cell? ⟨g, o, none⟩ = some (.int .i64 x.e.kind) ∧ w.cell? ⟨g, o + 1, none⟩ = some (.int .i64 x.e.h) ∧ w.cell? ⟨g, o + 2, none⟩ = some (.int .i64 x.e.addr) ∧ w.cell? ⟨g, o + 3, none⟩ = some (.int .u64 (x.e.draw : Int)) ∧
    w.cell? ⟨g, o + 4, none⟩ = some (.slice dp x.e.data.length dc) ∧ w.cell? ⟨g, o + 5, none⟩ = some (.bool x.good) ∧ DataAt w (.slice dp x.e.data.length dc) x.e.data ∧ (∀ bd off, dp = some ⟨bd, off, none⟩ → 0 < x.e.data.length → bd < w.heap.size)
  k : I64 x.e.kind
  h : I64 x.e.h
  a : I64 x.e.addr
  d : x.e.draw < 18446744073709551616
def ActsAt (w : World) (p : Option Addr) (l : List ActS) : Prop := ∀ i x, l[i]? = some x → ∃ g off, p = some ⟨g, off, none⟩ ∧ g < w.heap.size ∧ ActAt w g (off + i * 6) x
theorem ActAt.mod {w w' : World} {g o : Nat} {x : ActS} (h : ActAt w g o x) (hm : Mod NoB w w') : ActAt w' g o x := by
  obtain ⟨⟨dp, dc, h0, h1, h2, h3, h4, h5, h6, h7⟩, a, b, c, d⟩ := h
  exact ⟨⟨dp, dc, hm.cellAt id h0, hm.cellAt id h1, hm.cellAt id h2, hm.cellAt id h3, hm.cellAt id h4, hm.cellAt id h5, h6.mod hm, fun bd off e h0 => Nat.lt_of_lt_of_le (h7 bd off e h0) hm.size⟩, a, b, c, d⟩
theorem ActsAt.mod {w w' : World} {p : Option Addr} {l : List ActS} (h : ActsAt w p l) (hm : Mod NoB w w') : ActsAt w' p l := fun i x hx => by
  obtain ⟨g, off, h1, h2, h3⟩ := h i x hx
  exact ⟨g, off, h1, Nat.lt_of_lt_of_le h2 hm.size, h3.mod hm⟩
set_option maxRecDepth 100000 in
/-- One act, opened. -/
theorem open_act {H : Type} {enc : TypeId × Value → H} {w : World} {n : Nat} {a : Addr} {cs : List Value} {y : DataW H × List MemPlace} (hc : w.cells? 0 a 6 = some cs) (h : DataW.trod enc Tryz.prog w 0 (fun _ => true) true n 40 cs = some y) :
    ∃ g o x, a = ⟨g, o, none⟩ ∧ g < w.heap.size ∧ ActAt w g o x := by
  obtain ⟨_, hlen, hcell⟩ := World.cells?_some hc
  obtain ⟨xs, n1, _, _, _, hxl, hg⟩ := DataW.trod_struct Tryz.underlying40 h
  match cs, hlen with
  | [c0, c1, c2, c3, c4, c5], _ =>
    match xs, hxl with
    | [y0, y1], _ =>
      have hE := hg 0 _ rfl
      have hG := hg 1 _ rfl
      have hE : DataW.trod enc Tryz.prog w 0 (fun _ => true) true n1 38 [c0, c1, c2, c3, c4] = some y0 := hE
      have hG : DataW.trod enc Tryz.prog w 0 (fun _ => true) true n1 4 [c5] = some y1 := hG
      obtain ⟨zs, n2, _, _, _, hzl, hz⟩ := DataW.trod_struct Tryz.underlying38 hE
      match zs, hzl with
      | [z0, z1, z2, z3, z4], _ =>
        have h0 : DataW.trod enc Tryz.prog w 0 (fun _ => true) true n2 3 [c0] = some z0 := hz 0 _ rfl
        have h1 : DataW.trod enc Tryz.prog w 0 (fun _ => true) true n2 2 [c1] = some z1 := hz 1 _ rfl
        have h2 : DataW.trod enc Tryz.prog w 0 (fun _ => true) true n2 3 [c2] = some z2 := hz 2 _ rfl
        have h3 : DataW.trod enc Tryz.prog w 0 (fun _ => true) true n2 33 [c3] = some z3 := hz 3 _ rfl
        have h4 : DataW.trod enc Tryz.prog w 0 (fun _ => true) true n2 36 [c4] = some z4 := hz 4 _ rfl
        obtain ⟨v0, e0, _, w0⟩ := DataW.trod_int Tryz.underlying3 h0
        obtain ⟨v1, e1, _, w1⟩ := DataW.trod_int Tryz.underlying2 h1
        obtain ⟨v2, e2, _, w2⟩ := DataW.trod_int Tryz.underlying3 h2
        obtain ⟨v3, e3, _, w3⟩ := DataW.trod_int Tryz.underlying33 h3
        simp at e0 e1 e2 e3
        obtain ⟨p, c, l, e4, hd, hdl⟩ := open_data Tryz.underlying36 Tryz.underlying5 (by kernel_rfl) h4
        obtain ⟨b, e5, _⟩ := DataW.trod_bool Tryz.underlying4 hG
        simp at e5
        subst e0 e1 e2 e3 e4 e5
        have hu := wf_u64 w3
        obtain ⟨g, o, spot⟩ := a
        have hc0 := hcell 0 (by omega)
        have hspot : spot = none := by simpa [Addr.add] using World.cell?_spot hc0
        subst hspot
        have key : ∀ i v, [Value.int IntKind.i64 v0, .int .i64 v1, .int .i64 v2, .int .u64 v3, .slice p l.length c, .bool b][i]? = some v → w.cell? ⟨g, o + i, none⟩ = some v := fun i v hv => by
          have hi : i < 6 := by have := (List.getElem?_eq_some_iff.1 hv).1; simpa using this
          rw [← add_plain, hcell i hi, hv]
        refine ⟨g, o, ⟨⟨v0, v1, v2, v3.toNat, l⟩, b⟩, rfl, World.block_lt_of_cell? w _ (key 0 _ rfl), ⟨⟨p, c, key 0 _ rfl, key 1 _ rfl, key 2 _ rfl, ?_, key 4 _ rfl, key 5 _ rfl, hd, hdl⟩, i64_of_wf w0, i64_of_wf w1, i64_of_wf w2, (Int.toNat_lt hu.1).2 hu.2⟩⟩
        show w.cell? ⟨g, o + 3, none⟩ = some (.int .u64 ((v3.toNat : Nat) : Int))
        rw [Int.toNat_of_nonneg hu.1]
        exact key 3 _ rfl
set_option maxRecDepth 100000 in
theorem open_acts {H : Type} {enc : TypeId × Value → H} {w : World} {r : Reach} {b0 : Nat} {v : Value} {d : DataW H} {ps : List MemPlace} (hv : Value.okWide Tryz.prog w r b0 22 v) (h : DataW.Trod enc Tryz.prog w 0 (fun _ => true) true 22 v d ps) :
    ∃ (p : Option Addr) (c : Nat) (l : List ActS), v = .slice p l.length c ∧ ActsAt w p l ∧ l.length ≤ 9223372036854775807 := by
  obtain ⟨a0, len, cap, rfl⟩ := okWide_slice Tryz.underlying22 hv
  obtain ⟨fuel, hf⟩ := h
  rcases DataW.trod_slice Tryz.underlying22 hf with ⟨hcs, _⟩ | ⟨a, len', cap', elems, rest, n, _, hcs, _, _, hl, hm, hlen, hel, _, _⟩
  · simp [Value.cells] at hcs
    obtain ⟨rfl, rfl, rfl⟩ := hcs
    exact ⟨none, 0, [], rfl, fun i x hx => by simp at hx, by simp⟩
  · simp [Value.cells] at hcs
    obtain ⟨rfl, rfl, rfl⟩ := hcs
    have he6 : Tryz.prog.cellsOf 40 = 6 := by kernel_rfl
    have each : ∀ i, i < len → ∃ g o x, a.add (i * 6) = ⟨g, o, none⟩ ∧ g < w.heap.size ∧ ActAt w g o x := fun i hi => by
      have h1 := hel i hi
      rw [he6, List.getElem?_eq_getElem (by omega)] at h1
      cases hc : w.cells? 0 (a.add (i * 6)) 6 with
      | none => rw [hc] at h1; cases h1
      | some cs =>
        rw [hc] at h1
        exact open_act hc h1
    obtain ⟨f, hf⟩ : ∃ f : Nat → ActS, ∀ i, i < len → ∃ g o, a.add (i * 6) = ⟨g, o, none⟩ ∧ g < w.heap.size ∧ ActAt w g o (f i) := by
      refine ⟨fun i => if h : i < len then Classical.choose (Classical.choose_spec (Classical.choose_spec (each i h))) else ⟨evS0, false⟩, fun i hi => ?_⟩
      simp only [dif_pos hi]
      exact ⟨_, _, Classical.choose_spec (Classical.choose_spec (Classical.choose_spec (each i hi)))⟩
    have hll : ((List.range len).map f).length = len := by simp
    unfold maxLen at hm
    refine ⟨some a, cap, (List.range len).map f, by rw [hll], fun i x hx => ?_, by omega⟩
    have hi : i < len := by rw [← hll]; exact (List.getElem?_eq_some_iff.1 hx).1
    obtain ⟨g, o, h1, h2, h3⟩ := hf i hi
    have hx2 : x = f i := by simp [hi] at hx; exact hx.symm
    subst hx2
    obtain ⟨g0, o0, k1, _, _⟩ := hf 0 (by omega)
    have k2 : a = ⟨g0, o0, none⟩ := by simpa [Addr.add] using k1
    rw [k2, add_plain] at h1
    cases h1
    exact ⟨_, o0, by rw [k2], h2, h3⟩
end Go.Proofs.YtpjfiplejhbdfaaGreatDoor

namespace Go.Proofs.YtpjfiplejhbdfaaGreatDoor
set_option linter.unusedSimpArgs false
open Go.RowKit

def GreatPost (n : Nat) (w : World) (e : Ending) (w' : World) : Prop := ∃ r : Int, e = .returned (.int .i64 r) ∧ (r = 1 ∨ (r = 0 ∧ n ≤ 80)) ∧ Mod NoB w w'
set_option maxRecDepth 100000 in
set_option maxHeartbeats 8000000 in
theorem great_any (p : Option Addr) (c : Nat) (l : List ActS) (hl : l.length ≤ 9223372036854775807) (w : World) (ha : ActsAt w p l) :
    Calls Tryz.prog 9 #[.slice p l.length c] w (GreatPost l.length w) := by
  have hat := hide (fun wx (hm : Mod NoB w wx) => ha.mod hm)
  obtain ⟨n, hn⟩ : ∃ n, l.length = n := ⟨_, rfl⟩
  rw [hn] at hl ⊢
  replace hn := hide hn
  clear ha
  go_enter Tryz.func9, Tryz.ntmps9
  go_wp2_with fail
  go_loopw [3, 8] (fun s3 s8 wr => ∃ (k : Nat) (z : Int), s8 = .int .i64 k ∧ s3 = .int .i64 z ∧ I64 z ∧ k ≤ n ∧ Mod NoB w wr) (fun s3 s8 wr => n - (match s8 with | .int _ i => i.toNat | _ => 0))
  case atStart => exact ⟨0, 0, rfl, rfl, by decide, Nat.zero_le _, Mod.refl _ _⟩
  case round =>
    obtain ⟨k, z, rfl, rfl, hz, hk, hmr⟩ := hrel
    by_cases hkn : k < n
    · obtain ⟨x, hx⟩ : ∃ x, l[k]? = some x := ⟨l[k]'(by rw [hn.out]; exact hkn), List.getElem?_eq_getElem (by rw [hn.out]; exact hkn)⟩
      obtain ⟨g, off, rfl, hg, ⟨dp, dc, h0, h1, h2, h3, h4, h5, h6, h7⟩, _⟩ := hat.out wr hmr k x hx
      have hki : (k : Int) < n := by omega
      replace hmr := hide hmr
      replace hx := hide hx
      replace h6 := hide h6
      replace h7 := hide h7
      replace hz := hide hz
      clear hk hkn
      go_upto_region 5 with (fail)
      replace hmr := hide (hmr.out.alloc (.cells #[.int .i64 x.e.kind, .int .i64 x.e.h, .int .i64 x.e.addr, .int .u64 (x.e.draw : Int), .slice dp x.e.data.length dc, .bool x.good] 40))
      clear h0 h1 h2 h3 h4 h5
      go_wp2_with fail
      go_roundw
      case rel => exact ⟨k + 1, _, by go_num, rfl, (by rw [wrap64_eq]; exact wrap_range _), by omega, hmr.out⟩
      case measure => simp; omega
    · have hke : k = n := by omega
      subst hke
      have hki : ¬ ((k : Int) < k) := by omega
      replace hmr := hide hmr
      by_cases h80 : 80 < k
      · skip
        go_wp2_with fail
        go_ret
        exact ⟨1, rfl, Or.inl rfl, hmr.out⟩
      · by_cases hz8 : 8000 < z
        · skip
          go_wp2_with fail
          go_ret
          exact ⟨1, rfl, Or.inl rfl, hmr.out⟩
        · skip
          go_wp2_with fail
          go_ret
          exact ⟨0, rfl, Or.inr ⟨rfl, by omega⟩, hmr.out⟩
/-- The event of an act, behind a draw. -/
def evOf (x : ActS) (draw : Nat) : EvS := if x.good then ⟨1, x.e.h, x.e.addr, 0, (goodP draw x.e.draw x.e.draw).bytes⟩ else x.e
theorem good_lt (a b c : Nat) : ∀ y ∈ (goodP a b c).bytes, y < 256 := by
  intro y hy
  simp only [goodP, pkt0, PktS.bytes, List.mem_append, List.mem_cons, List.not_mem_nil, or_false] at hy
  rcases hy with ((((((h | h) | h) | h) | h) | h) | h) | h
  · rcases h with h | h | h | h <;> subst h <;> decide
  all_goals exact be_lt _ _ y h
theorem good_len (a b c : Nat) : (goodP a b c).bytes.length = 48 := by simp [goodP, PktS.bytes, be_len]
abbrev actV (x : ActS) (dp : Option Addr) (dc : Nat) : Value := .agg #[.int .i64 x.e.kind, .int .i64 x.e.h, .int .i64 x.e.addr, .int .u64 (x.e.draw : Int), .slice dp x.e.data.length dc, .bool x.good]
def EvPost (z : EvS) (dp : Option Addr) (l : List Nat) (w : World) (e : Ending) (w' : World) : Prop :=
  ∃ dp' dc', e = .returned (evV z.kind z.h z.addr z.draw (.slice dp' z.data.length dc')) ∧ DataAt w' (.slice dp' z.data.length dc') z.data ∧ ((dp' = dp ∧ z.data = l) ∨ ∀ bd off, dp' = some ⟨bd, off, none⟩ → w.heap.size ≤ bd) ∧ Mod NoB w w'
set_option maxRecDepth 100000 in
set_option maxHeartbeats 8000000 in
theorem event_any (x : ActS) (dp : Option Addr) (dc : Nat) (draw : Nat) (hd : draw < 18446744073709551616) (hx : x.e.draw < 18446744073709551616) (w : World) (hda : DataAt w (.slice dp x.e.data.length dc) x.e.data) :
    Calls Tryz.prog 13 #[actV x dp dc, .int .u64 (draw : Int)] w (EvPost (evOf x draw) dp x.e.data w) := by
  obtain ⟨z, hz⟩ : ∃ z, evOf x draw = z := ⟨_, rfl⟩
  rw [hz]
  replace hz := hide hz
  go_enter Tryz.func13, Tryz.ntmps13
  go_upto_region 1 with (fail)
  have hm2 : Mod NoB w ((w.alloc (.cells #[.int .i64 x.e.kind, .int .i64 x.e.h, .int .i64 x.e.addr, .int .u64 (x.e.draw : Int), .slice dp x.e.data.length dc, .bool x.good] 40)).alloc (.cells #[.int .i64 0, .int .i64 0, .int .i64 0, .int .u64 0, .slice none 0 0] 38)) := ((Mod.refl _ _).alloc _).alloc _
  have hA := (heap_alloc_old (w := w.alloc (.cells #[.int .i64 x.e.kind, .int .i64 x.e.h, .int .i64 x.e.addr, .int .u64 (x.e.draw : Int), .slice dp x.e.data.length dc, .bool x.good] 40)) (by simp) (.cells #[.int .i64 0, .int .i64 0, .int .i64 0, .int .u64 0, .slice none 0 0] 38)).trans (heap_alloc_new w (.cells #[.int .i64 x.e.kind, .int .i64 x.e.h, .int .i64 x.e.addr, .int .u64 (x.e.draw : Int), .slice dp x.e.data.length dc, .bool x.good] 40))
  have hB := heap_alloc_new (w.alloc (.cells #[.int .i64 x.e.kind, .int .i64 x.e.h, .int .i64 x.e.addr, .int .u64 (x.e.draw : Int), .slice dp x.e.data.length dc, .bool x.good] 40)) (.cells #[.int .i64 0, .int .i64 0, .int .i64 0, .int .u64 0, .slice none 0 0] 38)
  rw [World.size_alloc] at hB
  generalize (w.alloc (.cells #[.int .i64 x.e.kind, .int .i64 x.e.h, .int .i64 x.e.addr, .int .u64 (x.e.draw : Int), .slice dp x.e.data.length dc, .bool x.good] 40)).alloc (.cells #[.int .i64 0, .int .i64 0, .int .i64 0, .int .u64 0, .slice none 0 0] 38) = w2 at *
  have a0 := cell_of_block hA 0 (v := .int .i64 x.e.kind) rfl
  have a1 := cell_of_block hA 1 (v := .int .i64 x.e.h) rfl
  have a2 := cell_of_block hA 2 (v := .int .i64 x.e.addr) rfl
  have a3 := cell_of_block hA 3 (v := .int .u64 (x.e.draw : Int)) rfl
  have a4 := cell_of_block hA 4 (v := .slice dp x.e.data.length dc) rfl
  have a5 := cell_of_block hA 5 (v := .bool x.good) rfl
  have hda2 := hda.mod hm2
  have hgd := hide (fun wx => sgood_any draw x.e.draw x.e.draw hd hx hx wx)
  replace hA := hide hA
  replace hm2 := hide hm2
  replace hda := hide hda
  replace hda2 := hide hda2
  cases hg : x.good with
  | true =>
    rw [hg] at a5
    have he : evOf x draw = ⟨1, x.e.h, x.e.addr, 0, (goodP draw x.e.draw x.e.draw).bytes⟩ := by unfold evOf; rw [hg]; rfl
    replace hg := hide hg
    replace he := hide (hz.out.symm.trans he)
    have hlt := good_lt draw x.e.draw x.e.draw
    have hlen := good_len draw x.e.draw x.e.draw
    rw [show (goodP draw x.e.draw x.e.draw).bytes = (goodP draw x.e.draw x.e.draw).bytes from rfl] at hlt
    generalize hQ : (goodP draw x.e.draw x.e.draw).bytes = Q at *
    replace hQ := hide hQ
    replace hlt := hide hlt
    replace hlen := hide hlen
    have lB := lt_of_block hB
    replace hB := hide hB
    go_wp2_with fail
    go_region_held3 (fun w' => w'.cell? ⟨w.heap.size, 1, none⟩ = some (.int .i64 x.e.h) ∧ w'.cell? ⟨w.heap.size, 2, none⟩ = some (.int .i64 x.e.addr) ∧ w'.cell? ⟨w.heap.size, 3, none⟩ = some (.int .u64 (x.e.draw : Int)))
      (first | with_reducible exact ⟨a1, a2, a3⟩ | with_reducible exact ⟨hma.out.cellAt id a1, hma.out.cellAt id a2, hma.out.cellAt id a3⟩ | go_keep)
      ((go_at_call 33; (with_reducible refine (hgd.out w2.drew).mono ?_); rintro e wa ⟨v, rfl, hown, hma⟩; obtain ⟨g, c, hv, hgb, hc1, hc2, hby⟩ := own_data hown hlt.out (by have := hlen.out; omega); subst hv; replace hma := hide ((Mod.refl NoB w2).drew.trans hma); have hBa := hma.out.heap hB.out id; have b0 := cell_of_block hBa 0 (v := .int .i64 0) rfl; have b1 := cell_of_block hBa 1 (v := .int .i64 0) rfl; have b2 := cell_of_block hBa 2 (v := .int .i64 0) rfl; have b3 := cell_of_block hBa 3 (v := .int .u64 0) rfl; have b4 := cell_of_block hBa 4 (v := .slice none 0 0) rfl; have f0 := frozen_of_block hBa 0; have f1 := frozen_of_block hBa 1; have f2 := frozen_of_block hBa 2; have f3 := frozen_of_block hBa 3; have f4 := frozen_of_block hBa 4; replace hBa := hide hBa; replace hown := hide hown; replace hby := hide hby))
    go_wp2_with fail
    have hs := heap_setCell_eq (heap_setCell_eq (heap_setCell_eq (heap_setCell_eq (heap_setCell_eq hBa.out (o := 0) (.int .i64 1)) (o := 1) (.int .i64 x.e.h)) (o := 2) (.int .i64 x.e.addr)) (o := 3) (.int .u64 0)) (o := 4) (.slice (some ⟨g, 0, none⟩) Q.length c)
    have hms : Mod (· = w.heap.size + 1) wa (((((wa.setCell ⟨w.heap.size + 1, 0, none⟩ (.int .i64 1)).setCell ⟨w.heap.size + 1, 1, none⟩ (.int .i64 x.e.h)).setCell ⟨w.heap.size + 1, 2, none⟩ (.int .i64 x.e.addr)).setCell ⟨w.heap.size + 1, 3, none⟩ (.int .u64 0)).setCell ⟨w.heap.size + 1, 4, none⟩ (.slice (some ⟨g, 0, none⟩) Q.length c)) := (((((Mod.refl _ _).set1 _ _).set1 _ _).set1 _ _).set1 _ _).set1 _ _
    generalize (((((wa.setCell ⟨w.heap.size + 1, 0, none⟩ (.int .i64 1)).setCell ⟨w.heap.size + 1, 1, none⟩ (.int .i64 x.e.h)).setCell ⟨w.heap.size + 1, 2, none⟩ (.int .i64 x.e.addr)).setCell ⟨w.heap.size + 1, 3, none⟩ (.int .u64 0)).setCell ⟨w.heap.size + 1, 4, none⟩ (.slice (some ⟨g, 0, none⟩) Q.length c)) = wl at *
    have y0 := cell_of_block hs 0 (v := .int .i64 1) (by simp)
    have y1 := cell_of_block hs 1 (v := .int .i64 x.e.h) (by simp)
    have y2 := cell_of_block hs 2 (v := .int .i64 x.e.addr) (by simp)
    have y3 := cell_of_block hs 3 (v := .int .u64 0) (by simp)
    have y4 := cell_of_block hs 4 (v := .slice (some ⟨g, 0, none⟩) Q.length c) (by simp)
    have hby' := hby.out.mod hms (fun e => by have h1 := lB; have h2 := hgb; have h3 : w2.heap.size ≤ g := h2; omega)
    have hgb' : w2.heap.size ≤ g := hgb
    have hsz := hm2.out.size
    rw [he.out]
    exact bodyPost_ret (v := .agg #[.int .i64 1, .int .i64 x.e.h, .int .i64 x.e.addr, .int .u64 0, .slice (some ⟨g, 0, none⟩) Q.length c]) (by simp [results, Tryz.results13, go_sem, y0, y1, y2, y3, y4]) rfl
      ⟨some ⟨g, 0, none⟩, c, rfl, ⟨_, c, rfl, by have := hlen.out; simp only []; omega, fun _ => ⟨g, 0, rfl, hc1, hc2, hby'⟩⟩, Or.inr (fun bd off e => by cases e; omega), (hm2.out.trans hma.out).into hms (fun k hk => Or.inr (by omega))⟩
  | false =>
    rw [hg] at a5
    have he : evOf x draw = x.e := by unfold evOf; rw [hg]; rfl
    replace hg := hide hg
    replace he := hide (hz.out.symm.trans he)
    have b0 := cell_of_block hB 0 (v := .int .i64 0) rfl
    have b1 := cell_of_block hB 1 (v := .int .i64 0) rfl
    have b2 := cell_of_block hB 2 (v := .int .i64 0) rfl
    have b3 := cell_of_block hB 3 (v := .int .u64 0) rfl
    have b4 := cell_of_block hB 4 (v := .slice none 0 0) rfl
    have f0 := frozen_of_block hB 0
    have f1 := frozen_of_block hB 1
    have f2 := frozen_of_block hB 2
    have f3 := frozen_of_block hB 3
    have f4 := frozen_of_block hB 4
    replace hB := hide hB
    go_wp2_with fail
    have hs := heap_setCell_eq (heap_setCell_eq (heap_setCell_eq (heap_setCell_eq (heap_setCell_eq hB.out (o := 0) (.int .i64 x.e.kind)) (o := 1) (.int .i64 x.e.h)) (o := 2) (.int .i64 x.e.addr)) (o := 3) (.int .u64 (x.e.draw : Int))) (o := 4) (.slice dp x.e.data.length dc)
    have hms : Mod (· = w.heap.size + 1) w2 (((((w2.setCell ⟨w.heap.size + 1, 0, none⟩ (.int .i64 x.e.kind)).setCell ⟨w.heap.size + 1, 1, none⟩ (.int .i64 x.e.h)).setCell ⟨w.heap.size + 1, 2, none⟩ (.int .i64 x.e.addr)).setCell ⟨w.heap.size + 1, 3, none⟩ (.int .u64 (x.e.draw : Int))).setCell ⟨w.heap.size + 1, 4, none⟩ (.slice dp x.e.data.length dc)) := (((((Mod.refl _ _).set1 _ _).set1 _ _).set1 _ _).set1 _ _).set1 _ _
    generalize (((((w2.setCell ⟨w.heap.size + 1, 0, none⟩ (.int .i64 x.e.kind)).setCell ⟨w.heap.size + 1, 1, none⟩ (.int .i64 x.e.h)).setCell ⟨w.heap.size + 1, 2, none⟩ (.int .i64 x.e.addr)).setCell ⟨w.heap.size + 1, 3, none⟩ (.int .u64 (x.e.draw : Int))).setCell ⟨w.heap.size + 1, 4, none⟩ (.slice dp x.e.data.length dc)) = wl at *
    have y0 := cell_of_block hs 0 (v := .int .i64 x.e.kind) (by simp)
    have y1 := cell_of_block hs 1 (v := .int .i64 x.e.h) (by simp)
    have y2 := cell_of_block hs 2 (v := .int .i64 x.e.addr) (by simp)
    have y3 := cell_of_block hs 3 (v := .int .u64 (x.e.draw : Int)) (by simp)
    have y4 := cell_of_block hs 4 (v := .slice dp x.e.data.length dc) (by simp)
    rw [he.out]
    exact bodyPost_ret (v := .agg #[.int .i64 x.e.kind, .int .i64 x.e.h, .int .i64 x.e.addr, .int .u64 (x.e.draw : Int), .slice dp x.e.data.length dc]) (by simp [results, Tryz.results13, go_sem, y0, y1, y2, y3, y4]) rfl
      ⟨dp, dc, rfl, (hda.out.mod (hm2.out.into hms (fun k hk => Or.inr (by omega)))), Or.inl ⟨rfl, rfl⟩, hm2.out.into hms (fun k hk => Or.inr (by omega))⟩
end Go.Proofs.YtpjfiplejhbdfaaGreatDoor

namespace Go.Proofs.YtpjfiplejhbdfaaGreatDoor
set_option linter.unusedSimpArgs false
open Go.RowKit

/-- All that is sent are bytes. -/
def SendsOk (L : List (Int × List Nat)) : Prop := ∀ x ∈ L, (∀ c ∈ x.2, c < 256) ∧ 0 < x.2.length ∧ x.2.length ≤ 1000
end Go.Proofs.YtpjfiplejhbdfaaGreatDoor

