/- daemon.New (contract). -/
import Derived.Test.YtpjfiplejhbdfaaGreatDoorPUbd
import Derived.Test.YtpjfiplejhbdfaaGreatDoorPUbb
import Derived.Deep.AppendLies
import Derived.Deep.RegionHeld3
import Derived.Deep.DeepCutAuto
namespace Go.Proofs.YtpjfiplejhbdfaaGreatDoor
set_option linter.unusedSimpArgs false
open Go.RowKit

theorem ParseOut.of {r : Cfg × Int × Int} {w w' : World} {e : Ending} (h : ParseOut r w e w') {a : Cfg} {n er : Int} (h1 : r = (a, n, er)) :
    ∃ p c, e = .returned (.tuple #[a.val p c, .int .i64 n, .int .i64 er]) ∧ IntsL w' p a.srv ∧ a.srv.length ≤ c ∧ (∀ b off, p = some ⟨b, off, none⟩ → w.heap.size ≤ b) ∧ a.srv.length ≤ 16 := by
  subst h1; exact h
/-- Behind the parts' making. -/
structure NewCut (w3 : World) (A bk : Nat) (c : Cfg) (p : Option Addr) (cp : Nat) (h clock : Int) (b bq bqm bc : Nat) (wx : World) : Prop where
  blk : wx.heap[b]? = some (.cells #[.slice p c.srv.length cp, .int .i64 c.q, .int .i64 c.l, .int .i64 c.m, .int .i64 c.d, .int .i64 c.s, at0 bk, .slice none 0 0, .slice none 0 0, at0 bq, at0 bc, .int .u64 0, .int .i64 h, .int .i64 0, .slice none 0 0, .int .i64 0] 100 (0, 0))
  q : QO wx bq bqm []
  n : CO wx bc zero13
  m : Mod NoB w3 wx
  lo : w3.heap.size ≤ b ∧ w3.heap.size ≤ bq ∧ w3.heap.size ≤ bqm ∧ w3.heap.size ≤ bc
def NewCutE (w3 : World) (A bk : Nat) (c : Cfg) (p : Option Addr) (cp : Nat) (h clock : Int) (s13 : Value) (wx : World) : Prop :=
  ∃ b bq bqm bc, s13 = at0 b ∧ NewCut w3 A bk c p cp h clock b bq bqm bc wx
set_option maxRecDepth 100000 in
set_option maxHeartbeats 8000000 in
theorem new_any (l : List UInt8) (hl : l.length ≤ 9223372036854775807) (h clock : Int) (w : World) (hL : LaidN w) :
    Calls Tryz.prog 11 #[.string (bs l), .int .i64 h, .int .i64 clock] w (DNewPost l h clock w) := by
  have hp := hide (parse_any l hl w hL)
  obtain ⟨cf, line, er, hr⟩ : ∃ cf line er, parseR l = (cf, line, er) := ⟨_, _, _, rfl⟩
  have hcs := parse_cases l
  rw [hr] at hcs
  have hout : newOut l h clock = if er ≠ 0 then .inl (line, er) else if newErr h clock ≠ 0 then .inl (0, newErr h clock) else .inr cf := by
    unfold newOut
    rw [hr]
  obtain ⟨O, hO⟩ : ∃ O, newOut l h clock = O := ⟨_, rfl⟩
  have hpost : ∀ e w', DNewPost l h clock w e w' ↔ (Mod NoB w w' ∧ ((∃ line er, e = .returned (.tuple #[.pointer none, .int .i64 line, .int .i64 er]) ∧ O = .inl (line, er)) ∨
    ∃ P c, e = .returned (.tuple #[at0 P.b, .int .i64 0, .int .i64 0]) ∧ O = .inr c ∧ DO w' P (newS c h clock) ∧ ∀ k, fpD P k → w.heap.size ≤ k)) := by
    intro e w'
    unfold DNewPost
    rw [hO]
  rw [hO] at hout
  replace hpost := hide hpost
  replace hcs := hide hcs
  replace hr := hide hr
  replace hout := hide hout
  replace hO := hide hO
  clear hL
  go_enter Tryz.func11, Tryz.ntmps11
  go_wp2_with fail
  refine hp.out.mono ?_
  rintro e w1 ⟨ho, hm1⟩
  obtain ⟨p, cp, rfl, hi, hcp, hge, h16⟩ := ho.of hr.out
  obtain ⟨w2, hw2⟩ : ∃ w2, w1.alloc (.cells #[.slice p cf.srv.length cp, .int .i64 cf.q, .int .i64 cf.l, .int .i64 cf.m, .int .i64 cf.d, .int .i64 cf.s] 31) = w2 := ⟨_, rfl⟩
  have hm2 : Mod NoB w1 w2 := by rw [← hw2]; exact (Mod.refl _ _).alloc _
  have hb2 : w2.heap[w1.heap.size]? = some (.cells #[.slice p cf.srv.length cp, .int .i64 cf.q, .int .i64 cf.l, .int .i64 cf.m, .int .i64 cf.d, .int .i64 cf.s] 31 (0, 0)) := by rw [← hw2]; exact heap_alloc_new _ _
  have hs2 : w2.heap.size = w1.heap.size + 1 := by rw [← hw2]; simp
  have hmw2 := hide (hm1.trans hm2)
  have hi2 := hi.mod0 hm2
  have hil : 0 < cf.srv.length → ∀ g off, p = some ⟨g, off, none⟩ → g < w1.heap.size := fun h0 g off e => by
    obtain ⟨g', off', e', hlt, _⟩ := hi 0 h0
    rw [e] at e'
    cases e'
    exact hlt
  replace hm2 := hide hm2
  replace hb2 := hide hb2
  replace hi2 := hide hi2
  replace hi := hide hi
  replace hil := hide hil
  replace hge := hide hge
  replace hs2 := hide hs2
  have hm1s := hm1.size
  clear ho hm1 hp
  go_upto_region 2 with (fail)
  generalize hA : w1.heap.size = A at *
  have hb2 := hb2.out
  have c5 := cell_of_block hb2 5 (v := .int .i64 cf.s) rfl
  have hsz1 : w.heap.size ≤ A := hm1s
  replace hb2 := hide hb2
  replace hA := hide hA
  clear hm1s
  by_cases h0 : er = 0
  · subst h0
    obtain ⟨rfl, hck⟩ : line = 0 ∧ checkC cf = 0 := by
      rcases hcs.out with ⟨_, h1, h2⟩ | ⟨h1, _⟩
      · exact ⟨h1, h2⟩
      · exact absurd rfl h1
    obtain ⟨⟨_, _⟩, ⟨_, _⟩, ⟨q1, q2⟩, ⟨_, _⟩, ⟨s1, s2⟩⟩ := cfg_nums hck
    have hN0 : 0 < cf.srv.length := by omega
    have hkn := fun wx => knew_any h clock cf.s wx
    by_cases hb : newBad h clock cf.s = true
    · simp only [hb, if_true] at hkn
      have he3 : newErr h clock = 3 := by
        unfold newBad at hb
        replace hb := of_decide_eq_true hb
        unfold newErr maxHard
        rw [if_pos (by omega)]
      have ho2 := hout.out
      rw [if_neg (by simp), he3, if_pos (by simp)] at ho2
      replace ho2 := hide ho2
      replace hkn := hide hkn
      clear hb hN0 q1 q2 s1 s2
      go_wp2_with fail
      refine (hkn.out _).mono ?_
      rintro e w3 ⟨rfl, rfl⟩
      go_wp2_with fail
      go_ret3
      rw [hpost.out]
      exact ⟨hmw2.out, Or.inl ⟨_, _, rfl, ho2.out⟩⟩
    · simp only [hb, if_false, Bool.false_eq_true] at hkn
      have hne : newErr h clock = 0 := by
        unfold newBad at hb
        have hb3 : ¬ (h < 0 ∨ 4611686018427387903 < h ∨ clock < -2305843009213693952 ∨ 2305843009213693952 < clock ∨ cf.s < 1 ∨ 500 < cf.s) := fun x => hb (decide_eq_true x)
        unfold newErr maxHard
        rw [if_neg (by omega)]
      have hh01 : 0 ≤ h ∧ h ≤ 4611686018427387903 := by
        unfold newErr maxHard at hne
        split at hne
        · omega
        · omega
      obtain ⟨hh0, hh1⟩ := hh01
      have ho2 := hout.out
      rw [if_neg (by simp), if_neg (by simp [hne])] at ho2
      replace ho2 := hide ho2
      replace hkn := hide hkn
      replace hne := hide hne
      clear hb q1 q2 s1 s2
      go_wp2_with fail
      refine (hkn.out _).mono ?_
      rintro e w3 ⟨rfl, hko, hm3⟩
      have hb3 := hide (hm3.heap hb2.out id)
      have hi3 := hide (hi2.out.mod0 hm3)
      have hmw3 := hide (hmw2.out.trans hm3)
      have hs3 : A + 1 ≤ w3.heap.size := by have h1 := hm3.size; have h2 := hs2.out; omega
      generalize hbk : w2.heap.size = bk at *
      have hbkA : A + 1 = bk := hs2.out.symm
      have hlbk := lt_of_block hko
      replace hko := hide hko
      have c0 := cell_of_block hb3.out 0 (v := .slice p cf.srv.length cp) rfl
      have c1 := cell_of_block hb3.out 1 (v := .int .i64 cf.q) rfl
      have c2 := cell_of_block hb3.out 2 (v := .int .i64 cf.l) rfl
      have c3 := cell_of_block hb3.out 3 (v := .int .i64 cf.m) rfl
      have c4 := cell_of_block hb3.out 4 (v := .int .i64 cf.d) rfl
      have c5' := cell_of_block hb3.out 5 (v := .int .i64 cf.s) rfl
      have hqn := hide (fun wx => qnew_any wx)
      have hcn := hide (fun wx => co_new_any wx)
      replace hbk := hide hbk
      clear hm3 c5 hw2
      go_upto_region 7 with (fail)
      go_cut [13] (fun s13 wx => NewCutE w3 A bk cf p cp h clock s13 wx)
      case first =>
        go_region_held3 (fun w' => w'.cell? ⟨A, 0, none⟩ = some (.slice p cf.srv.length cp) ∧ w'.cell? ⟨A, 1, none⟩ = some (.int .i64 cf.q) ∧ w'.cell? ⟨A, 2, none⟩ = some (.int .i64 cf.l) ∧ w'.cell? ⟨A, 3, none⟩ = some (.int .i64 cf.m) ∧ w'.cell? ⟨A, 4, none⟩ = some (.int .i64 cf.d) ∧ w'.cell? ⟨A, 5, none⟩ = some (.int .i64 cf.s))
          (first | with_reducible exact ⟨c0, c1, c2, c3, c4, c5'⟩ | with_reducible exact ⟨hmb.out.cellAt id c0, hmb.out.cellAt id c1, hmb.out.cellAt id c2, hmb.out.cellAt id c3, hmb.out.cellAt id c4, hmb.out.cellAt id c5'⟩ | with_reducible exact ⟨hma.out.cellAt id c0, hma.out.cellAt id c1, hma.out.cellAt id c2, hma.out.cellAt id c3, hma.out.cellAt id c4, hma.out.cellAt id c5'⟩ | with_reducible exact ⟨(hmb.out.alloc _).cellAt id c0, (hmb.out.alloc _).cellAt id c1, (hmb.out.alloc _).cellAt id c2, (hmb.out.alloc _).cellAt id c3, (hmb.out.alloc _).cellAt id c4, (hmb.out.alloc _).cellAt id c5'⟩ | go_keep)
          (first
            | (go_at_call 37; (with_reducible refine (hqn.out w3.drew).mono ?_); rintro e wa ⟨bq, bqm, rfl, hq, hq1, hq2, hq3, hma⟩; replace hq := hide hq; replace hma := hide ((Mod.refl NoB w3).drew.trans hma))
            | (go_at_call 38; (with_reducible refine (hcn.out wa).mono ?_); rintro e wb ⟨bc, rfl, hc1, hc, hmx⟩; replace hc := hide hc; replace hq := hide (hq.out.mod hmx id id); have hmb := hide (hma.out.trans hmx); clear hmx)
            | (go_at_call 38; (with_reducible refine (hcn.out w3.drew).mono ?_); rintro e wa ⟨bc, rfl, hc1, hc, hma⟩; replace hc := hide hc; replace hma := hide ((Mod.refl NoB w3).drew.trans hma))
            | (go_at_call 37; (with_reducible refine (hqn.out wa).mono ?_); rintro e wb ⟨bq, bqm, rfl, hq, hq1, hq2, hq3, hmx⟩; replace hq := hide hq; replace hc := hide (hc.out.heap hmx id); have hmb := hide (hma.out.trans hmx); clear hmx))
        go_wp2_with fail
        go_meet
        have hsa := hma.out.size
        have hsb := hmb.out.size
        have hq1' : w3.heap.size ≤ bq := hq1
        have hq2' : w3.heap.size ≤ bqm := hq2
        exact ⟨wb.heap.size, bq, bqm, bc, rfl, heap_alloc_new _ _, hq.out.mod ((Mod.refl NoB wb).alloc _) id id, hc.out.heap ((Mod.refl NoB wb).alloc _) id, hmb.out.alloc _, hsb, hq1', hq2', Nat.le_trans hsa hc1⟩
      case rest =>
        obtain ⟨b, bq, bqm, bc, rfl, hN⟩ := hcut
        obtain ⟨l1, l2, l3, l4⟩ := hN.lo
        have hd0 := newK_DO (sc := cp) (lo := A) (clock := clock) hN.blk (hi3.out.mod0 hN.m) (hil.out hN0) (hko.out.heap hN.m id) hN.q hN.n ⟨by omega, by omega, by omega, by omega, by omega⟩ (by have := hN.m.size; omega)
        have hf0 : ∀ j, fpD (newP0 b bk p cp bq bqm bc A) j → w.heap.size ≤ j := newP0_fp (by omega) (by omega) (by omega) (by omega) (by omega) (fun g off e => hge.out g off e)
        have hcfg := hN.m.heap hb3.out id
        have hn1 : NewL (newP0 b bk p cp bq bqm bc A) b p cp A cf w wc := ⟨rfl, rfl, rfl, rfl, hcfg, hmw3.out.trans hN.m, hf0, fun j hj => by
          rcases hj with e | e | e | e | e
          · have e : j = b := e
            show A < j
            omega
          · cases e
          · cases e
          · have e : j = bq := e
            omega
          · have e : j = bqm := e
            omega⟩
        obtain ⟨n, hn⟩ : ∃ n, cf.srv.length = n := ⟨_, rfl⟩
        have hn16 : n ≤ 16 := by omega
        have d0 := cell_of_block hcfg 0 (v := .slice p cf.srv.length cp) rfl
        rw [hn] at d0
        replace hd0 := hide hd0
        replace hn1 := hide hn1
        replace hn := hide hn
        clear hN l1 l2 l3 l4 hcfg hf0 hko hb3 hmw3 c0 c1 c2 c3 c4 c5' hs3 hbkA hlbk h16 hN0
        go_wp2_with fail
        go_loopw [48] (fun s48 wr => ∃ (k : Nat) (P : DPl) (L : List (Int × Int)), s48 = .int .i64 k ∧ k ≤ n ∧ DO wr P (newK cf h clock k) ∧ NewL P b p cp A cf w wr ∧ QO wr P.bq P.bqm L ∧ L.length = k ∧ QFor L (List.replicate k (newPeer cf h)) k) (fun s48 wr => n - (match s48 with | .int _ i => i.toNat | _ => 0))
        case atStart =>
          obtain ⟨L, hq, hl⟩ := hd0.out.que
          exact ⟨0, _, L, rfl, Nat.zero_le _, hd0.out, hn1.out, hq, hl, fun i hi => by omega⟩
        case round =>
          obtain ⟨k, P, L, rfl, hk, hdk, hnl, hqk, hLk, hfk⟩ := hrel
          obtain ⟨u0, u1, u2, u3, u4, u5, -⟩ := six_of hnl.cfg
          rw [hn.out] at u0
          by_cases hkn : k < n
          · have hki : (k : Int) < n := by omega
            have hpn : ∀ wx, Mod NoB wr wx → Calls Tryz.prog 39 #[cfgV p n cp cf.q cf.l cf.m cf.d cf.s, .int .i64 h] wx fun e w' => ∃ b bk, e = .returned (.tuple #[at0 b, .int .i64 0]) ∧ PeerO w' b bk (newPeer cf h) ∧ wx.heap.size ≤ b ∧ wx.heap.size ≤ bk ∧ Mod NoB wx w' := fun wx hm => by
              have := pnew_any cf hck p cp h hh0 hh1 wx ((hnl.sp ▸ hdk.srv).mod0 hm) hcp (by rw [hn.out]; omega)
              rw [show cf.val p cp = cfgV p n cp cf.q cf.l cf.m cf.d cf.s by rw [← hn.out]] at this
              exact this
            replace hpn := hide hpn
            obtain ⟨vp, vc, hpv⟩ := own_value hdk.prow
            obtain ⟨sp, sc, hsv⟩ := own_value hdk.srow
            have hpl : P.pbs.length = k := by have := hdk.pn; rw [this]; simp [newK]
            have hsl : P.ss.length = k := by have := congrArg List.length hdk.sxs; simpa [newK] using this
            rw [hpl] at hpv
            rw [hsl] at hsv
            have hbj := hdk.blk
            rw [hnl.b, hpv, hsv] at hbj
            have hpr := hdk.prow
            have hsr := hdk.srow
            rw [hpv, hpl] at hpr
            rw [hsv, hsl] at hsr
            replace hdk := hide hdk
            replace hnl := hide hnl
            replace hqk := hide hqk
            replace hLk := hide hLk
            replace hfk := hide hfk
            replace hbj := hide hbj
            replace hpr := hide hpr
            replace hsr := hide hsr
            replace hpv := hide hpv
            replace hsv := hide hsv
            replace hpl := hide hpl
            replace hsl := hide hsl
            clear d0 hk hkn
            go_wp2_with fail
            refine (hpn.out _ (Mod.refl NoB wr)).mono ?_
            rintro e wa ⟨pb, pk, rfl, hpo, hpb1, hpb2, hma⟩
            have hba := hma.heap hbj.out id
            have k7 := cell_of_block hba 7 (v := .slice vp k vc) rfl
            have k8 := cell_of_block hba 8 (v := .slice sp k sc) rfl
            have z7 := frozen_of_block hba 7
            have z8 := frozen_of_block hba 8
            have lba := lt_of_block hba
            replace hma := hide hma
            replace hba := hide hba
            replace hpo := hide hpo
            clear hpn u0 u1 u2 u3 u4 u5
            go_upto_region 14 with (fail)
            go_cut [] (fun wx => ∃ pv' sv' sb rb, GrowCut wa b k (.slice vp k vc) (.slice sp k sc) (P.pbs.map fun x => at0 x.1) (P.ss.map fun s => at0 s.b) pb (fun u v => #[.slice P.sp (newK cf h clock k).c.srv.length P.sc, .int .i64 (newK cf h clock k).c.q, .int .i64 (newK cf h clock k).c.l, .int .i64 (newK cf h clock k).c.m, .int .i64 (newK cf h clock k).c.d, .int .i64 (newK cf h clock k).c.s, at0 P.bk, u, v, at0 P.bq, at0 P.bc, .int .u64 ((newK cf h clock k).draw : Int), .int .i64 (newK cf h clock k).h, .int .i64 (newK cf h clock k).theta, P.vv, .int .i64 (newK cf h clock k).chosen]) pv' sv' sb rb wx)
            case first =>
              obtain ⟨i0, hi0, hz0, hz1, hz2⟩ := info_parts infoPP
              obtain ⟨i1, hi1, hy0, hy1, hy2⟩ := info_parts infoPS
              have hpra := ownsRow_mod2 hpr.out hma.out (fun _ _ => id)
              have hsra := ownsRow_mod2 hsr.out hma.out (fun _ _ => id)
              have npb : ∀ g, (Value.slice vp k vc).ownBlock = some g → ¬ (g = b) := fun g hg e => by
                obtain ⟨cu, hcu⟩ := own_block hpra hg
                exact ne_type hcu hba.out (by decide) e
              have nsb : ∀ g, (Value.slice sp k sc).ownBlock = some g → ¬ (g = b) := fun g hg e => by
                obtain ⟨cu, hcu⟩ := own_block hsra hg
                exact ne_type hcu hba.out (by decide) e
              have nps : ∀ g, (Value.slice sp k sc).ownBlock = some g → ¬ ((Value.slice vp k vc).ownBlock = some g) := fun g hg e => by
                obtain ⟨cu, hcu⟩ := own_block hsra hg
                obtain ⟨cu2, hcu2⟩ := own_block hpra e
                exact ne_type hcu hcu2 (by decide) rfl
              have hfn := hide (fun wx => fnew_any wx)
              replace hi0 := hide hi0
              replace hz0 := hide hz0
              replace hz1 := hide hz1
              replace hz2 := hide hz2
              replace hi1 := hide hi1
              replace hy0 := hide hy0
              replace hy1 := hide hy1
              replace hy2 := hide hy2
              replace hpra := hide hpra
              replace hsra := hide hsra
              replace npb := hide npb
              replace nsb := hide nsb
              replace nps := hide nps
              have hk16 : k ≤ 16 := by omega
              go_region_law ((first
                | (refine step_append_at rfl (.tmp 65) (.tmp 67) 96 rfl 0 101 i0 (.pointer none) 1 8 Tryz.underlying96 hi0.out hz0.out hz1.out hz2.out rfl (by decide) (.slice vp k vc) k (P.pbs.map fun x => at0 x.1) rfl (by exact (ownsRow_mod2 (S := NoB) hpra.out ((Mod.refl _ _).alloc _).drew (fun _ _ f => f.elim))) ⟨_, 0, none⟩ 1 1 [at0 pb] rfl rfl (by exact cells1_new _ _ _) (by intro y hy; simp at hy; subst hy; rfl) (by unfold maxLen; omega) (by omega) (Nat.zero_le _) ?_; intro v7 w7 hown7 hgrow hat; obtain ⟨p7, c7, rfl⟩ := own_value hown7; have hm7 : Mod (fun j => (Value.slice vp k vc).ownBlock = some j) wa w7 := Mod.grownS (((Mod.refl _ _).alloc _).drew) hgrow (fun _ h => h); have hb7 := hm7.heap hba.out (fun e => npb.out b e rfl); have y8 := cell_of_block hb7 8 (v := .slice sp k sc) rfl; have lb7 := lt_of_block hb7; have hat7 : Hid (∀ g, (Value.slice p7 (k + 1) c7).ownBlock = some g → (Value.slice vp k vc).ownBlock = some g ∨ wa.heap.size ≤ g) := hide (fun g hg => hat.elim (fun h => Or.inl (h ▸ hg)) (fun h => Or.inr (by rw [h] at hg; cases hg; simp))); replace hown7 := hide hown7; replace hm7 := hide hm7; replace hb7 := hide hb7; clear hgrow hat)
                | (go_simp; go_at_call 40; (with_reducible refine (hfn.out w7).mono ?_); rintro e w8 ⟨sb, rb, rfl, hst, hs1, hs2, hs3, hm8⟩; have hb8 := hm8.heap hb7.out id; have x8 := cell_of_block hb8 8 (v := .slice sp k sc) rfl; have lb8 := lt_of_block hb8; replace hst := hide hst; replace hm8 := hide hm8; replace hb8 := hide hb8)
                | (refine step_append_at rfl (.tmp 72) (.tmp 74) 97 rfl 0 104 i1 (.pointer none) 1 8 Tryz.underlying97 hi1.out hy0.out hy1.out hy2.out rfl (by decide) (.slice sp k sc) k (P.ss.map fun s => at0 s.b) rfl (by exact (ownsRow_mod2 (S := NoB) (ownsRow_mod2 (S := NoB) (ownsRow_mod2 hsra.out hm7.out (fun g hg => nps.out g hg)) hm8.out (fun _ _ f => f.elim)) ((Mod.refl _ _).alloc _) (fun _ _ f => f.elim))) ⟨_, 0, none⟩ 1 1 [at0 sb] rfl rfl (by exact cells1_new _ _ _) (by intro y hy; simp at hy; subst hy; rfl) (by unfold maxLen; omega) (by omega) (Nat.zero_le _) ?_; intro v9 w9 hown9 hgrow hat; obtain ⟨p9, c9, rfl⟩ := own_value hown9; have hm9 : Mod (fun j => (Value.slice sp k sc).ownBlock = some j) w8 w9 := Mod.grownS ((Mod.refl _ _).alloc _) hgrow (fun _ h => h); have hb9 := hm9.heap hb8.out (fun e => nsb.out b e rfl); have v7' := cell_of_block hb9 7 (v := .slice vp k vc) rfl; have v8' := cell_of_block hb9 8 (v := .slice sp k sc) rfl; have g7' := frozen_of_block hb9 7; have g8' := frozen_of_block hb9 8; have hat9 : Hid (∀ g, (Value.slice p9 (k + 1) c9).ownBlock = some g → (Value.slice sp k sc).ownBlock = some g ∨ w8.heap.size ≤ g) := hide (fun g hg => hat.elim (fun h => Or.inl (h ▸ hg)) (fun h => Or.inr (by rw [h] at hg; cases hg; simp))); replace hown9 := hide hown9; replace hm9 := hide hm9; replace hb9 := hide hb9; clear hgrow hat)))
              all_goals
                go_wp2_with fail
                go_meet
                exact ⟨_, _, sb, rb, growCut_of hb9.out (fun u v => by simp) hm7.out hm8.out hm9.out hown7.out hown9.out hst.out hs1 hs2 hat7.out hat9.out hsra.out hpra.out hba.out⟩
            case rest =>
              obtain ⟨pv', sv', sb, rb, hg⟩ := hcut
              rw [← hpv.out, ← hsv.out] at hg
              have hpx := grow_peer hdk.out hnl.out.b hg hpo.out hpb1 hpb2
              have hqx := grow_que hdk.out hnl.out.b hma.out hg hqk.out
              have k9 := cell_of_block hg.blk 9 (v := at0 P.bq) rfl
              obtain ⟨nx, hnxv⟩ : ∃ nx, (newPeer cf h).next = nx := ⟨_, rfl⟩
              have hnx := fun wx (hm : Mod NoB wc wx) => pnext_any pb pk (newPeer cf h) (newPeer_ok hck hh0 hh1) wx (hpx.mod hm id id).pb
              rw [hnxv] at hnx
              obtain ⟨nq, hqb⟩ := hqx.blk
              have hne : P.bq ≠ P.bqm := by
                intro e
                have h2 := hqx.map
                rw [← e, hqb] at h2
                cases h2
              have hset := hide (fun wx (hm : Mod NoB wc wx) => qset_any P.bq P.bqm L k (by have := hLk.out; omega) nx wx (hqx.mod hm id id) hne)
              have nqb : ¬ (b = P.bq ∨ b = P.bqm) := by
                rintro (e | e)
                · exact ne_type hg.blk hqb (by decide) e
                · have h2 := hg.blk
                  rw [e, hqx.map] at h2
                  cases h2
              replace nqb := hide nqb
              replace hnx := hide hnx
              replace hg := hide hg
              replace hpx := hide hpx
              replace hqx := hide hqx
              replace hqb := hide hqb
              replace hnxv := hide hnxv
              replace hne := hide hne
              clear k7 k8 z7 z8 lba
              go_wp2_with fail
              go_region_held3 (fun w' => w'.cell? ⟨b, 9, none⟩ = some (at0 P.bq))
                (first | with_reducible exact hmx.out.cellAt id k9 | with_reducible exact hmc.out.cellAt nqb.out k9 | go_keep)
                (first
                  | (go_at_call 42; (with_reducible refine (hnx.out _ (Mod.refl NoB wc).drew).mono ?_); rintro e wn ⟨rfl, hmx⟩; replace hmx := hide ((Mod.refl NoB wc).drew.trans hmx))
                  | (go_at_call 41; (with_reducible refine (hset.out _ hmx.out).mono ?_); rintro e wy ⟨⟨rr, rfl⟩, ⟨sq, hqy⟩, hmy⟩; replace hqy := hide hqy; have hmc := hide ((hmx.out.mono (fun _ _ f => f.elim)).trans hmy); replace hmy := hide hmy))
              have hql : (qput L k (nx, sq)).length = (newK cf h clock k).ps.length + 1 := by
                rw [qput_len (by have := hLk.out; omega)]
                have := hLk.out
                simp [newK]
                omega
              obtain ⟨gd, gm, gf, gg⟩ := grow_done hdk.out hnl.out.b hma.out hpl.out hsl.out hg.out hpo.out hpb1 hpb2 hmx.out hmy.out hqy.out hql (fun j hj => by have := hnl.out.g j hj; have h2 := hnl.out.lo; omega)
              rw [newK_succ] at gd
              have hLq : (qput L k (nx, sq)).length = k + 1 := by rw [qput_len (by have := hLk.out; omega)]; have := hLk.out; omega
              have hqf : QFor (qput L k (nx, sq)) (List.replicate (k + 1) (newPeer cf h)) (k + 1) := by rw [← hnxv.out]; exact qfor_rep hfk.out hLk.out sq
              have hAw := lt_of_block hnl.out.cfg
              have hnl2 : NewL (newP P pv' sv' pb pk sb rb) b p cp A cf w wy := ⟨hnl.out.b, hnl.out.sp, hnl.out.sc, hnl.out.lo, gm.heap hnl.out.cfg (fun hj => by have := hnl.out.g A hj; omega), hnl.out.m.into gm (fun j hj => Or.inr (hnl.out.fp j (growS_fp hj))),
                fun j hj => (gf j hj).elim (hnl.out.fp j) (fun h => Nat.le_trans hnl.out.m.size h), fun j hj => (gg j hj).elim (hnl.out.g j) (fun h => by omega)⟩
              replace gd := hide gd
              replace hnl2 := hide hnl2
              replace hqf := hide hqf
              replace hLq := hide hLq
              clear gm gf gg hql hAw hmx hmy hmc
              go_wp2_with fail
              go_roundw
              case rel => exact ⟨k + 1, _, _, by go_num, by omega, gd.out, hnl2.out, hqy.out, hLq.out, hqf.out⟩
              case measure => simp; omega
          · have hke : k = n := by omega
            subst hke
            have hki : ¬ ((k : Int) < k) := by omega
            rw [← hn.out, newK_all] at hdk
            replace hdk := hide hdk
            replace hnl := hide hnl
            clear u0 u1 u2 u3 u4 u5 d0
            go_wp2_with fail
            go_ret3
            rw [hpost.out]
            exact ⟨hnl.out.m, Or.inr ⟨P, cf, by rw [hnl.out.b]; rfl, ho2.out, hdk.out, hnl.out.fp⟩⟩
  · have hb0 : (er != 0) = true := by simpa using h0
    have ho2 := hide (hout.out.trans (if_pos h0))
    go_wp2_with fail
    go_ret3
    rw [hpost.out]
    exact ⟨hmw2.out, Or.inl ⟨_, _, rfl, ho2.out⟩⟩
end Go.Proofs.YtpjfiplejhbdfaaGreatDoor

