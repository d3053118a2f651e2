/- Package peer: rest, Late, Due, Next, Ask (contracts). -/
import Derived.Test.YtpjfiplejhbdfaaGreatDoorPUar
namespace Go.Proofs.YtpjfiplejhbdfaaGreatDoor
set_option linter.unusedSimpArgs false
open Go.RowKit

theorem PB.cells {w : World} {b bk : Nat} {p : PeerS} (h : PB w b bk p) : w.cell? ⟨b, 0, none⟩ = some (at0 bk) ∧ w.cell? ⟨b, 1, none⟩ = some (.int .i64 p.state) ∧ w.cell? ⟨b, 2, none⟩ = some (.int .i64 p.due) ∧ w.cell? ⟨b, 3, none⟩ = some (.int .i64 p.patience) ∧
    w.cell? ⟨b, 4, none⟩ = some (.int .i64 p.sent) ∧ w.cell? ⟨b, 5, none⟩ = some (.int .i64 p.clock) ∧ w.cell? ⟨b, 6, none⟩ = some (.int .u64 (p.cookie : Int)) :=
  ⟨cell_of_block h 0 rfl, cell_of_block h 1 rfl, cell_of_block h 2 rfl, cell_of_block h 3 rfl, cell_of_block h 4 rfl, cell_of_block h 5 rfl, cell_of_block h 6 rfl⟩
theorem prest_any (b bk : Nat) (p : PeerS) (hp : p.Ok) (s : Int) (h0 : 0 ≤ s) (h1 : s ≤ 1073741824) (w : World) (hb : PB w b bk p) :
    Calls Tryz.prog 114 #[at0 b, .int .i64 s] w fun e w' => (∃ x, e = .returned x) ∧ PB w' b bk (p.rest s) ∧ Mod (· = b) w w' := by
  obtain ⟨k0, k1, k2, k3, k4, k5, k6⟩ := hb.cells
  have z1 := frozen_of_block hb 1
  have z2 := frozen_of_block hb 2
  have hw1 : wrap64 (s * 1000000000) = s * 1000000000 := by rw [wrap64_eq, wrap_in ⟨by omega, by omega⟩]
  have hw2 : wrap64 (p.sent + s * 1000000000) = p.sent + s * 1000000000 := by
    have := hp.s0; have := hp.s1
    unfold maxHard at *
    rw [wrap64_eq, wrap_in ⟨by omega, by omega⟩]
  have hset : PB ((w.setCell ⟨b, 1, none⟩ (.int .i64 0)).setCell ⟨b, 2, none⟩ (.int .i64 (p.sent + s * 1000000000))) b bk (p.rest s) := heap_setCell_eq (heap_setCell_eq hb _) _
  replace hset := hide hset
  clear hb
  go_enter Tryz.func114, Tryz.ntmps114
  go_wp2
  go_end0
  exact ⟨⟨_, rfl⟩, hset.out, ((Mod.refl _ _).set1 _ _).set1 _ _⟩
theorem pdue_any (b bk : Nat) (p : PeerS) (h : Int) (w : World) (hb : PB w b bk p) :
    Calls Tryz.prog 116 #[at0 b, .int .i64 h] w fun e w' => e = .returned (.bool (decide (p.state = 0 ∧ p.due ≤ h))) ∧ w = w' := by
  obtain ⟨k0, k1, k2, k3, k4, k5, k6⟩ := hb.cells
  have hst := hide (pstate_any b bk p w hb)
  obtain ⟨v, hv⟩ : ∃ v, decide (p.state = 0 ∧ p.due ≤ h) = v := ⟨_, rfl⟩
  rw [hv]
  replace hv := hide hv
  replace hb := hide hb
  go_enter Tryz.func116, Tryz.ntmps116
  go_wp2_with fail
  refine hst.out.mono ?_
  rintro e w' ⟨rfl, rfl⟩
  go_wp2_with fail
  all_goals
    go_ret
    refine ⟨bool_ret ?_, rfl⟩
    rw [← hv.out]
    refine Bool.eq_iff_iff.2 ?_
    simp only [Bool.and_eq_true, beq_iff_eq, decide_eq_true_eq, Bool.true_and, Bool.false_and, Bool.false_eq_true, false_iff, true_and]
    all_goals (try omega)
theorem pnext_any (b bk : Nat) (p : PeerS) (hp : p.Ok) (w : World) (hb : PB w b bk p) :
    Calls Tryz.prog 42 #[at0 b] w fun e w' => e = .returned (.int .i64 p.next) ∧ Mod NoB w w' := by
  obtain ⟨k0, k1, k2, k3, k4, k5, k6⟩ := hb.cells
  have hw1 : wrap64 (p.sent + p.patience) = p.sent + p.patience := by
    have := hp.s0; have := hp.s1; have := hp.p0; have := hp.p1
    unfold maxHard at *
    rw [wrap64_eq, wrap_in ⟨by omega, by omega⟩]
  have hw2 : wrap64 (p.sent + p.patience + 1) = p.sent + p.patience + 1 := by
    have := hp.s0; have := hp.s1; have := hp.p0; have := hp.p1
    unfold maxHard at *
    rw [wrap64_eq, wrap_in ⟨by omega, by omega⟩]
  have hw3 : IntKind.i64.wrap (p.sent + p.patience) = p.sent + p.patience := by rw [← wrap64_eq]; exact hw1
  have hw4 : IntKind.i64.wrap (p.sent + p.patience + 1) = p.sent + p.patience + 1 := by rw [← wrap64_eq]; exact hw2
  obtain ⟨v, hv⟩ : ∃ v, p.next = v := ⟨_, rfl⟩
  rw [hv]
  unfold PeerS.next maxHard at hv
  replace hv := hide hv
  clear hb
  by_cases h0 : p.state = 0
  · go_enter Tryz.func42, Tryz.ntmps42
    go_wp2_with fail
    go_ret
    refine ⟨int_ret ?_, Mod.refl _ _⟩
    rw [← hv.out, if_pos h0]
  · by_cases h1 : p.state = 1
    · go_enter Tryz.func42, Tryz.ntmps42
      go_wp2_with fail
      go_quiet (fail)
      go_wp2_with fail
      go_ret
      refine ⟨int_ret ?_, (Mod.refl _ _).drewN _⟩
      rw [← hv.out, if_neg h0, if_pos h1]
    · go_enter Tryz.func42, Tryz.ntmps42
      go_wp2_with fail
      go_ret
      refine ⟨int_ret ?_, Mod.refl _ _⟩
      rw [← hv.out, if_neg h0, if_neg h1]
theorem plated_any (b bk : Nat) (p : PeerS) (hp : p.Ok) (h : Int) (w : World) (hb : PeerO w b bk p) :
    Calls Tryz.prog 77 #[at0 b, .int .i64 h] w fun e w' => (∃ x, e = .returned x) ∧ PeerO w' b bk (p.late h) ∧ Mod (fun k => k = b ∨ k = bk) w w' := by
  have hne := hb.ne
  have hl := hide (plate_any b bk p hp h w hb.pb)
  cases hv : p.isLate h with
  | false =>
    have e : p.late h = p := by unfold PeerS.late; rw [hv]; rfl
    rw [e]
    rw [hv] at hl
    replace hb := hide hb
    go_enter Tryz.func77, Tryz.ntmps77
    go_wp2_with fail
    refine hl.out.mono ?_
    rintro e w1 ⟨rfl, hm⟩
    replace hm := hide hm
    go_wp2_with fail
    go_ret
    exact ⟨⟨_, rfl⟩, hb.out.mod hm.out id id, hm.out.mono (fun _ _ f => f.elim)⟩
  | true =>
    have e : p.late h = { p with n := nextZ p.n p.m, t := p.t + 1 }.rest (nextZ p.n p.m) := by unfold PeerS.late; rw [hv]; rfl
    rw [e]
    rw [hv] at hl
    obtain ⟨r0, r1⟩ := next_range (n := p.n) hp.m0 hp.m1
    have hm64 : I64 p.m := ⟨by have := hp.m0; omega, by have := hp.m1; omega⟩
    have hn64 : I64 p.n := ⟨by have := hp.n0; omega, by have := hp.n1; omega⟩
    replace hb := hide hb
    go_enter Tryz.func77, Tryz.ntmps77
    go_wp2_with fail
    refine hl.out.mono ?_
    rintro e w1 ⟨rfl, hm⟩
    have hb1 := hb.out.mod hm id id
    have k0 := hb1.pb.cells.1
    replace hm := hide hm
    replace hb1 := hide hb1
    go_wp2_with fail
    obtain ⟨t, hbo⟩ := hb1.out.bo
    refine (fail2_any bk p.l p.m p.n t _ hbo hm64 hn64).mono ?_
    rintro e w2 ⟨rfl, hbo2, hm2⟩
    have hpb2 : PB w2 b bk p := hm2.heap hb1.out.pb hne
    replace hbo2 := hide hbo2
    replace hm2 := hide hm2
    go_wp2_with fail
    refine (prest_any b bk p hp (nextZ p.n p.m) r0 r1 _ hpb2).mono ?_
    rintro e w3 ⟨⟨x, rfl⟩, hpb3, hm3⟩
    have hbo3 : BO w3 bk p.l p.m (nextZ p.n p.m) (wrap64 (t + 1)) := hm3.heap hbo2.out (fun e => hne e.symm)
    have hfin : Mod (fun k => k = b ∨ k = bk) w w3 := ((hm.out.mono (fun _ _ f => f.elim)).trans (hm2.out.mono (fun _ _ f => Or.inr f))).trans (hm3.mono (fun _ _ f => Or.inl f))
    replace hpb3 := hide hpb3
    replace hbo3 := hide hbo3
    replace hfin := hide hfin
    clear hm3
    go_wp2_with fail
    go_ret
    exact ⟨⟨_, rfl⟩, ⟨hpb3.out, _, hbo3.out⟩, hfin.out⟩
theorem pask_no (b bk : Nat) (p : PeerS) (h clock : Int) (ck : Nat) (hh0 : 0 ≤ h) (hh1 : h ≤ 4611686018427387903) (w : World) (hb : PB w b bk p) (hn : p.ask h clock ck = none) :
    Calls Tryz.prog 78 #[at0 b, .int .i64 h, .int .i64 clock, .int .u64 (ck : Int)] w fun e w' => (∃ er : Int, er ≠ 0 ∧ e = .returned (.tuple #[.slice none 0 0, .int .i64 er])) ∧ w = w' := by
  have hd := hide (pdue_any b bk p h w hb)
  replace hb := hide hb
  unfold PeerS.ask at hn
  by_cases h1 : p.state = 0 ∧ p.due ≤ h
  · have hc : ck = 0 := by
      rcases Nat.eq_zero_or_pos ck with h | h
      · exact h
      · rw [if_pos ⟨h1.1, h1.2, by omega⟩] at hn; cases hn
    subst hc
    replace hd := hide (decide_eq_true h1 ▸ hd.out)
    clear hn h1
    go_enter Tryz.func78, Tryz.ntmps78
    go_wp2_with fail
    refine hd.out.mono ?_
    rintro e w' ⟨rfl, rfl⟩
    go_wp2_with fail
    go_ret2
    exact ⟨⟨2, by decide, rfl⟩, rfl⟩
  · replace hd := hide (decide_eq_false h1 ▸ hd.out)
    clear hn h1
    go_enter Tryz.func78, Tryz.ntmps78
    go_wp2_with fail
    refine hd.out.mono ?_
    rintro e w' ⟨rfl, rfl⟩
    go_wp2_with fail
    go_ret2
    exact ⟨⟨9, by decide, rfl⟩, rfl⟩
set_option maxRecDepth 100000 in
set_option maxHeartbeats 2000000 in
theorem pask_yes (b bk : Nat) (p q : PeerS) (h clock : Int) (ck : Nat) (hh0 : 0 ≤ h) (hh1 : h ≤ 4611686018427387903) (hck : ck < 18446744073709551616) (w : World) (hb : PB w b bk p) (hy : p.ask h clock ck = some q) :
    Calls Tryz.prog 78 #[at0 b, .int .i64 h, .int .i64 clock, .int .u64 (ck : Int)] w fun e w' =>
      ∃ v, e = .returned (.tuple #[v, .int .i64 0]) ∧ w'.ownsRow w.heap.size 5 1 v (queryP ck).bytes.length (bcells (queryP ck).bytes) ∧ PB w' b bk q ∧ Mod (· = b) w w' := by
  have hd := hide (pdue_any b bk p h w hb)
  unfold PeerS.ask at hy
  by_cases h1 : p.state = 0 ∧ p.due ≤ h ∧ ck ≠ 0
  · rw [if_pos h1] at hy
    cases hy
    replace hd := hide (decide_eq_true (show p.state = 0 ∧ p.due ≤ h from ⟨h1.1, h1.2.1⟩) ▸ hd.out)
    have hck0 : ¬ ((ck : Int) = 0) := by omega
    obtain ⟨k0, k1, k2, k3, k4, k5, k6⟩ := hb.cells
    have z1 := frozen_of_block hb 1
    have z4 := frozen_of_block hb 4
    have z5 := frozen_of_block hb 5
    have z6 := frozen_of_block hb 6
    have hset := heap_setCell_eq (heap_setCell_eq (heap_setCell_eq (heap_setCell_eq hb (o := 1) (.int .i64 1)) (o := 4) (.int .i64 h)) (o := 5) (.int .i64 clock)) (o := 6) (.int .u64 (ck : Int))
    have hms : Mod (· = b) w ((((w.setCell ⟨b, 1, none⟩ (.int .i64 1)).setCell ⟨b, 4, none⟩ (.int .i64 h)).setCell ⟨b, 5, none⟩ (.int .i64 clock)).setCell ⟨b, 6, none⟩ (.int .u64 (ck : Int))) := ((((Mod.refl _ _).set1 _ _).set1 _ _).set1 _ _).set1 _ _
    replace hb := hide hb
    replace hset := hide hset
    replace hms := hide hms
    clear h1
    go_enter Tryz.func78, Tryz.ntmps78
    go_wp2_with fail
    refine hd.out.mono ?_
    rintro e w' ⟨rfl, rfl⟩
    go_wp2_with fail
    refine (query_any ck hck _).mono ?_
    rintro e w2 ⟨v, rfl, hrow, hm⟩
    obtain ⟨a, c, rfl⟩ := own_value hrow
    have hpb := hide (hm.heap hset.out id)
    have hmf := hide (hms.out.trans (hm.mono (fun _ _ f => f.elim)))
    have hrow2 := hide (ownsRow_le hrow (show w.heap.size ≤ _ from hms.out.size))
    clear hrow hm
    go_wp2_with fail
    go_ret2
    exact ⟨_, rfl, hrow2.out, hpb.out, hmf.out⟩
  · rw [if_neg h1] at hy; cases hy
end Go.Proofs.YtpjfiplejhbdfaaGreatDoor

