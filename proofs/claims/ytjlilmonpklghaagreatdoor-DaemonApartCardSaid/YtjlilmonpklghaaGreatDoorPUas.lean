/- Package backoff: set, Fail and Good, as contracts on the block that holds the object. Package backoff: Fail, however often; package peer: a peer's block, State, late, rest, Late, Due, Next (contracts). Package peer: rest, Late, Due, Next, Ask (contracts). -/
import Derived.Test.YtjlilmonpklghaaGreatDoorPUar
import Derived.Test.YtjlilmonpklghaaGreatDoorPUam
import Derived.Test.YtjlilmonpklghaaGreatDoorPUac
import Derived.Test.YtjlilmonpklghaaGreatDoorPUad
namespace Go.Proofs.YtjlilmonpklghaaGreatDoor
open Go.RowKit

theorem setCells {w : World} {b : Nat} {l m n t : Int} (hb : BO w b l m n t) (n' t' : Int) :
    BO ((w.setCell ⟨b, 2, none⟩ (.int .i64 n')).setCell ⟨b, 3, none⟩ (.int .i64 t')) b l m n' t' :=
  heap_setCell_eq (heap_setCell_eq hb _) _

theorem set_good (b bb : Nat) (l m n t : Int) (w : World) (hb : BO w b l m n t)
    (hc : w.cell? ⟨bb, 0, none⟩ = some (at0 b)) :
    Calls Tryz.prog 204 #[at0 b, .func (.func 245) #[] #[at0 bb]] w (BkPost b l m l 0 l w) := by
  have h0 := cell_of_block hb 0 rfl
  have h2 := cell_of_block hb 2 rfl
  have h3 := cell_of_block hb 3 rfl
  have g2 := frozen_of_block hb 2
  have g3 := frozen_of_block hb 3
  have HB : Hid (BO w b l m n t) := hb
  clear hb
  go_enter Tryz.func204, Tryz.ntmps204
  go_wp2_with fail
  go_region_with ((go_at_call 245; refine (goodf_any _ _ l b _ _ ?_ ?_).mono ?_; go_simp; go_simp; rintro e w' ⟨rfl, rfl⟩))
  all_goals
    go_wp2
    go_ret
    exact ⟨rfl, setCells HB.out _ _, (((Mod.refl _ _).set1 _ _).set1 _ _).drew⟩

theorem good_any (b : Nat) (l m n t : Int) (w : World) (hb : BO w b l m n t) :
    Calls Tryz.prog 209 #[at0 b] w (BkPost b l m l 0 l w) := by
  have hmf : ∀ (fn : Fn) (first cap : Array Value) (w : World), (Instr.makeFunc fn first cap).run Tryz.prog w = .ok (.func fn first cap) w := fun _ _ _ _ => rfl
  have hlt := lt_of_block hb
  have HB : Hid (BO w b l m n t) := hb
  clear hb
  go_enter Tryz.func209, Tryz.ntmps209
  go_wp2_with fail
  refine (set_good b w.heap.size l m n t _ ((heap_alloc_old hlt _).trans HB.out) ?_).mono ?_
  · exact cell_of_block (heap_alloc_new w _) 0 rfl
  · rintro e w' ⟨rfl, h1, h2⟩
    go_wp2
    go_ret
    exact ⟨rfl, h1, ((Mod.refl _ _).alloc _).into h2 fun _ h => Or.inl h⟩

end Go.Proofs.YtjlilmonpklghaaGreatDoor

namespace Go.Proofs.YtjlilmonpklghaaGreatDoor
open Go.RowKit

theorem failf2_any (n t m : Int) (b bb : Nat) (w : World) (hc : w.cell? ⟨bb, 0, none⟩ = some (at0 b))
    (h1 : w.cell? ⟨b, 1, none⟩ = some (.int .i64 m)) (hm : I64 m) (hn : I64 n) :
    Calls Tryz.prog 205 #[.int .i64 n, .int .i64 t, at0 bb] w fun e w' =>
      e = .returned (.tuple #[.int .i64 (nextZ n m), .int .i64 (wrap64 (t + 1))]) ∧ w = w' := by
  go_enter Tryz.func205, Tryz.ntmps205
  go_wp2_with (go_at_call 206; refine (next_any _ _ hn hm _).mono ?_; rintro e w' ⟨rfl, rfl⟩)
  go_ret2
  exact ⟨rfl, rfl⟩
theorem set_fail2 (b bb : Nat) (l m n t : Int) (w : World) (hb : BO w b l m n t)
    (hc : w.cell? ⟨bb, 0, none⟩ = some (at0 b)) (hm : I64 m) (hn : I64 n) :
    Calls Tryz.prog 204 #[at0 b, .func (.func 205) #[] #[at0 bb]] w (BkPost b l m (nextZ n m) (wrap64 (t + 1)) (nextZ n m) w) := by
  have h1 := cell_of_block hb 1 rfl
  have h2 := cell_of_block hb 2 rfl
  have h3 := cell_of_block hb 3 rfl
  have g2 := frozen_of_block hb 2
  have g3 := frozen_of_block hb 3
  have HB : Hid (BO w b l m n t) := hb
  clear hb
  go_enter Tryz.func204, Tryz.ntmps204
  go_wp2_with fail
  go_region_with ((go_at_call 205; refine (failf2_any _ _ m b _ _ ?_ ?_ hm hn).mono ?_; go_simp; go_simp; rintro e w' ⟨rfl, rfl⟩))
  all_goals
    go_wp2
    go_ret
    exact ⟨rfl, setCells HB.out _ _, (((Mod.refl _ _).set1 _ _).set1 _ _).drew⟩
theorem fail2_any (b : Nat) (l m n t : Int) (w : World) (hb : BO w b l m n t) (hm : I64 m) (hn : I64 n) :
    Calls Tryz.prog 171 #[at0 b] w (BkPost b l m (nextZ n m) (wrap64 (t + 1)) (nextZ n m) w) := by
  have hmf : ∀ (fn : Fn) (first cap : Array Value) (w : World), (Instr.makeFunc fn first cap).run Tryz.prog w = .ok (.func fn first cap) w := fun _ _ _ _ => rfl
  have hlt := lt_of_block hb
  have HB : Hid (BO w b l m n t) := hb
  clear hb
  go_enter Tryz.func171, Tryz.ntmps171
  go_wp2_with fail
  refine (set_fail2 b w.heap.size l m n t _ ((heap_alloc_old hlt _).trans HB.out) ?_ hm hn).mono ?_
  · exact cell_of_block (heap_alloc_new w _) 0 rfl
  · rintro e w' ⟨rfl, h1, h2⟩
    go_wp2
    go_ret
    exact ⟨rfl, h1, ((Mod.refl _ _).alloc _).into h2 fun _ h => Or.inl h⟩
/-- Block b holds a peer's own cells; bk: its backoff's block. -/
def PB (w : World) (b bk : Nat) (p : PeerS) : Prop :=
  w.heap[b]? = some (.cells #[at0 bk, .int .i64 p.state, .int .i64 p.due, .int .i64 p.patience, .int .i64 p.sent, .int .i64 p.clock, .int .u64 (p.cookie : Int)] 243 (0, 0))
structure PeerO (w : World) (b bk : Nat) (p : PeerS) : Prop where
  pb : PB w b bk p
  bo : ∃ t, BO w bk p.l p.m p.n t
theorem PeerO.mod {S : Nat → Prop} {w w' : World} {b bk : Nat} {p : PeerS} (h : PeerO w b bk p) (hm : Mod S w w') (hb : ¬ S b) (hk : ¬ S bk) : PeerO w' b bk p :=
  ⟨hm.heap h.pb hb, let ⟨t, ht⟩ := h.bo; ⟨t, hm.heap ht hk⟩⟩
theorem PeerO.ne {w : World} {b bk : Nat} {p : PeerS} (h : PeerO w b bk p) : b ≠ bk := by
  obtain ⟨h1, t, h2⟩ := h
  intro e
  subst e
  have := h1.symm.trans h2
  exact absurd (Obj.cells.inj (Option.some.inj this)).2.1 (by decide)
theorem pstate_any (b bk : Nat) (p : PeerS) (w : World) (h : PB w b bk p) :
    Calls Tryz.prog 89 #[at0 b] w fun e w' => e = .returned (.int .i64 p.state) ∧ w = w' := by
  have k1 := cell_of_block h 1 rfl
  clear h
  go_enter Tryz.func89, Tryz.ntmps89
  go_wp2
  go_ret
  exact ⟨rfl, rfl⟩
theorem plate_any (b bk : Nat) (p : PeerS) (hp : p.Ok) (h : Int) (w : World) (hb : PB w b bk p) :
    Calls Tryz.prog 169 #[at0 b, .int .i64 h] w fun e w' => e = .returned (.bool (p.isLate h)) ∧ Mod NoB w w' := by
  have k1 := cell_of_block hb 1 rfl
  have k3 := cell_of_block hb 3 rfl
  have k4 := cell_of_block hb 4 rfl
  have hst := fun x : Since w => Since.call x (fun w' hm => (pstate_any b bk p w' (hm.heap hb id)).mono fun _ _ ⟨h1, h2⟩ => ⟨h1, h2 ▸ Mod.refl NoB w'⟩)
  have y3 := fun x : Since w => Since.cell k3 x
  have y4 := fun x : Since w => Since.cell k4 x
  obtain ⟨v, hv⟩ : ∃ v, p.isLate h = v := ⟨_, rfl⟩
  rw [hv]
  have hw1 : wrap64 (p.sent + p.patience) = p.sent + p.patience := by
    have := hp.s0; have := hp.s1; have := hp.p0; have := hp.p1
    unfold maxHard at *
    rw [wrap64_eq, wrap_in ⟨by omega, by omega⟩]
  have hw2 : IntKind.i64.wrap (p.sent + p.patience) = p.sent + p.patience := by rw [← wrap64_eq]; exact hw1
  unfold PeerS.isLate at hv
  replace hv := hide hv
  replace hst := hide hst
  clear k1 k3 k4
  replace hb := hide hb
  go_enter Tryz.func169, Tryz.ntmps169
  go_wp2_with fail
  by_cases hs : p.state = 1
  · have hs1 : ((p.state : Int) == 1) = true := by simpa using hs
    refine wp_region_mod (by kernel_rfl) (by kernel_rfl) ?_
    repeat (go_big_quiet_step ((go_at_call 89; exact hst.out _)))
    refine wpQuiet_nil ?_
    rintro _ ⟨⟨w3, hm3⟩, rfl⟩
    replace hm3 := hide hm3
    go_wp2
    go_ret
    refine ⟨bool_ret ?_, hm3.out⟩
    rw [← hv.out]
    simp [hs]
  · have hs1 : ((p.state : Int) == 1) = false := by simpa using hs
    refine wp_region_mod (by kernel_rfl) (by kernel_rfl) ?_
    repeat (go_big_quiet_step ((go_at_call 89; exact hst.out _)))
    refine wpQuiet_nil ?_
    rintro _ ⟨⟨w3, hm3⟩, rfl⟩
    replace hm3 := hide hm3
    go_wp2
    go_ret
    refine ⟨bool_ret ?_, hm3.out⟩
    rw [← hv.out]
    simp [hs]
end Go.Proofs.YtjlilmonpklghaaGreatDoor

namespace Go.Proofs.YtjlilmonpklghaaGreatDoor
set_option linter.unusedSimpArgs false
open Go.RowKit

theorem PB.cells {w : World} {b bk : Nat} {p : PeerS} (h : PB w b bk p) : w.cell? ⟨b, 0, none⟩ = some (at0 bk) ∧ w.cell? ⟨b, 1, none⟩ = some (.int .i64 p.state) ∧ w.cell? ⟨b, 2, none⟩ = some (.int .i64 p.due) ∧ w.cell? ⟨b, 3, none⟩ = some (.int .i64 p.patience) ∧
    w.cell? ⟨b, 4, none⟩ = some (.int .i64 p.sent) ∧ w.cell? ⟨b, 5, none⟩ = some (.int .i64 p.clock) ∧ w.cell? ⟨b, 6, none⟩ = some (.int .u64 (p.cookie : Int)) :=
  ⟨cell_of_block h 0 rfl, cell_of_block h 1 rfl, cell_of_block h 2 rfl, cell_of_block h 3 rfl, cell_of_block h 4 rfl, cell_of_block h 5 rfl, cell_of_block h 6 rfl⟩
theorem prest_any (b bk : Nat) (p : PeerS) (hp : p.Ok) (s : Int) (h0 : 0 ≤ s) (h1 : s ≤ 1073741824) (w : World) (hb : PB w b bk p) :
    Calls Tryz.prog 170 #[at0 b, .int .i64 s] w fun e w' => (∃ x, e = .returned x) ∧ PB w' b bk (p.rest s) ∧ Mod (· = b) w w' := by
  obtain ⟨k0, k1, k2, k3, k4, k5, k6⟩ := hb.cells
  have z1 := frozen_of_block hb 1
  have z2 := frozen_of_block hb 2
  have hw1 : wrap64 (s * 1000000000) = s * 1000000000 := by rw [wrap64_eq, wrap_in ⟨by omega, by omega⟩]
  have hw2 : wrap64 (p.sent + s * 1000000000) = p.sent + s * 1000000000 := by
    have := hp.s0; have := hp.s1
    unfold maxHard at *
    rw [wrap64_eq, wrap_in ⟨by omega, by omega⟩]
  have hset : PB ((w.setCell ⟨b, 1, none⟩ (.int .i64 0)).setCell ⟨b, 2, none⟩ (.int .i64 (p.sent + s * 1000000000))) b bk (p.rest s) := heap_setCell_eq (heap_setCell_eq hb _) _
  replace hset := hide hset
  clear hb
  go_enter Tryz.func170, Tryz.ntmps170
  go_wp2
  go_end0
  exact ⟨⟨_, rfl⟩, hset.out, ((Mod.refl _ _).set1 _ _).set1 _ _⟩
theorem pdue_any (b bk : Nat) (p : PeerS) (h : Int) (w : World) (hb : PB w b bk p) :
    Calls Tryz.prog 172 #[at0 b, .int .i64 h] w fun e w' => e = .returned (.bool (decide (p.state = 0 ∧ p.due ≤ h))) ∧ w = w' := by
  obtain ⟨k0, k1, k2, k3, k4, k5, k6⟩ := hb.cells
  have hst := hide (pstate_any b bk p w hb)
  obtain ⟨v, hv⟩ : ∃ v, decide (p.state = 0 ∧ p.due ≤ h) = v := ⟨_, rfl⟩
  rw [hv]
  replace hv := hide hv
  replace hb := hide hb
  go_enter Tryz.func172, Tryz.ntmps172
  go_wp2_with fail
  refine hst.out.mono ?_
  rintro e w' ⟨rfl, rfl⟩
  go_wp2_with fail
  all_goals
    go_ret
    refine ⟨bool_ret ?_, rfl⟩
    rw [← hv.out]
    refine Bool.eq_iff_iff.2 ?_
    simp only [Bool.and_eq_true, beq_iff_eq, decide_eq_true_eq, Bool.true_and, Bool.false_and, Bool.false_eq_true, false_iff, true_and]
    all_goals (try omega)
theorem pnext_any (b bk : Nat) (p : PeerS) (hp : p.Ok) (w : World) (hb : PB w b bk p) :
    Calls Tryz.prog 66 #[at0 b] w fun e w' => e = .returned (.int .i64 p.next) ∧ Mod NoB w w' := by
  obtain ⟨k0, k1, k2, k3, k4, k5, k6⟩ := hb.cells
  have hw1 : wrap64 (p.sent + p.patience) = p.sent + p.patience := by
    have := hp.s0; have := hp.s1; have := hp.p0; have := hp.p1
    unfold maxHard at *
    rw [wrap64_eq, wrap_in ⟨by omega, by omega⟩]
  have hw2 : wrap64 (p.sent + p.patience + 1) = p.sent + p.patience + 1 := by
    have := hp.s0; have := hp.s1; have := hp.p0; have := hp.p1
    unfold maxHard at *
    rw [wrap64_eq, wrap_in ⟨by omega, by omega⟩]
  have hw3 : IntKind.i64.wrap (p.sent + p.patience) = p.sent + p.patience := by rw [← wrap64_eq]; exact hw1
  have hw4 : IntKind.i64.wrap (p.sent + p.patience + 1) = p.sent + p.patience + 1 := by rw [← wrap64_eq]; exact hw2
  obtain ⟨v, hv⟩ : ∃ v, p.next = v := ⟨_, rfl⟩
  rw [hv]
  unfold PeerS.next maxHard at hv
  replace hv := hide hv
  clear hb
  by_cases h0 : p.state = 0
  · go_enter Tryz.func66, Tryz.ntmps66
    go_wp2_with fail
    go_ret
    refine ⟨int_ret ?_, Mod.refl _ _⟩
    rw [← hv.out, if_pos h0]
  · by_cases h1 : p.state = 1
    · go_enter Tryz.func66, Tryz.ntmps66
      go_wp2_with fail
      go_quiet (fail)
      go_wp2_with fail
      go_ret
      refine ⟨int_ret ?_, (Mod.refl _ _).drewN _⟩
      rw [← hv.out, if_neg h0, if_pos h1]
    · go_enter Tryz.func66, Tryz.ntmps66
      go_wp2_with fail
      go_ret
      refine ⟨int_ret ?_, Mod.refl _ _⟩
      rw [← hv.out, if_neg h0, if_neg h1]
theorem plated_any (b bk : Nat) (p : PeerS) (hp : p.Ok) (h : Int) (w : World) (hb : PeerO w b bk p) :
    Calls Tryz.prog 115 #[at0 b, .int .i64 h] w fun e w' => (∃ x, e = .returned x) ∧ PeerO w' b bk (p.late h) ∧ Mod (fun k => k = b ∨ k = bk) w w' := by
  have hne := hb.ne
  have hl := hide (plate_any b bk p hp h w hb.pb)
  cases hv : p.isLate h with
  | false =>
    have e : p.late h = p := by unfold PeerS.late; rw [hv]; rfl
    rw [e]
    rw [hv] at hl
    replace hb := hide hb
    go_enter Tryz.func115, Tryz.ntmps115
    go_wp2_with fail
    refine hl.out.mono ?_
    rintro e w1 ⟨rfl, hm⟩
    replace hm := hide hm
    go_wp2_with fail
    go_ret
    exact ⟨⟨_, rfl⟩, hb.out.mod hm.out id id, hm.out.mono (fun _ _ f => f.elim)⟩
  | true =>
    have e : p.late h = { p with n := nextZ p.n p.m, t := p.t + 1 }.rest (nextZ p.n p.m) := by unfold PeerS.late; rw [hv]; rfl
    rw [e]
    rw [hv] at hl
    obtain ⟨r0, r1⟩ := next_range (n := p.n) hp.m0 hp.m1
    have hm64 : I64 p.m := ⟨by have := hp.m0; omega, by have := hp.m1; omega⟩
    have hn64 : I64 p.n := ⟨by have := hp.n0; omega, by have := hp.n1; omega⟩
    replace hb := hide hb
    go_enter Tryz.func115, Tryz.ntmps115
    go_wp2_with fail
    refine hl.out.mono ?_
    rintro e w1 ⟨rfl, hm⟩
    have hb1 := hb.out.mod hm id id
    have k0 := hb1.pb.cells.1
    replace hm := hide hm
    replace hb1 := hide hb1
    go_wp2_with fail
    obtain ⟨t, hbo⟩ := hb1.out.bo
    refine (fail2_any bk p.l p.m p.n t _ hbo hm64 hn64).mono ?_
    rintro e w2 ⟨rfl, hbo2, hm2⟩
    have hpb2 : PB w2 b bk p := hm2.heap hb1.out.pb hne
    replace hbo2 := hide hbo2
    replace hm2 := hide hm2
    go_wp2_with fail
    refine (prest_any b bk p hp (nextZ p.n p.m) r0 r1 _ hpb2).mono ?_
    rintro e w3 ⟨⟨x, rfl⟩, hpb3, hm3⟩
    have hbo3 : BO w3 bk p.l p.m (nextZ p.n p.m) (wrap64 (t + 1)) := hm3.heap hbo2.out (fun e => hne e.symm)
    have hfin : Mod (fun k => k = b ∨ k = bk) w w3 := ((hm.out.mono (fun _ _ f => f.elim)).trans (hm2.out.mono (fun _ _ f => Or.inr f))).trans (hm3.mono (fun _ _ f => Or.inl f))
    replace hpb3 := hide hpb3
    replace hbo3 := hide hbo3
    replace hfin := hide hfin
    clear hm3
    go_wp2_with fail
    go_ret
    exact ⟨⟨_, rfl⟩, ⟨hpb3.out, _, hbo3.out⟩, hfin.out⟩
theorem pask_no (b bk : Nat) (p : PeerS) (h clock : Int) (ck : Nat) (hh0 : 0 ≤ h) (hh1 : h ≤ 4611686018427387903) (w : World) (hb : PB w b bk p) (hn : p.ask h clock ck = none) :
    Calls Tryz.prog 116 #[at0 b, .int .i64 h, .int .i64 clock, .int .u64 (ck : Int)] w fun e w' => (∃ er : Int, er ≠ 0 ∧ e = .returned (.tuple #[.slice none 0 0, .int .i64 er])) ∧ w = w' := by
  have hd := hide (pdue_any b bk p h w hb)
  replace hb := hide hb
  unfold PeerS.ask at hn
  by_cases h1 : p.state = 0 ∧ p.due ≤ h
  · have hc : ck = 0 := by
      rcases Nat.eq_zero_or_pos ck with h | h
      · exact h
      · rw [if_pos ⟨h1.1, h1.2, by omega⟩] at hn; cases hn
    subst hc
    replace hd := hide (decide_eq_true h1 ▸ hd.out)
    clear hn h1
    go_enter Tryz.func116, Tryz.ntmps116
    go_wp2_with fail
    refine hd.out.mono ?_
    rintro e w' ⟨rfl, rfl⟩
    go_wp2_with fail
    go_ret2
    exact ⟨⟨2, by decide, rfl⟩, rfl⟩
  · replace hd := hide (decide_eq_false h1 ▸ hd.out)
    clear hn h1
    go_enter Tryz.func116, Tryz.ntmps116
    go_wp2_with fail
    refine hd.out.mono ?_
    rintro e w' ⟨rfl, rfl⟩
    go_wp2_with fail
    go_ret2
    exact ⟨⟨9, by decide, rfl⟩, rfl⟩
set_option maxRecDepth 100000 in
set_option maxHeartbeats 2000000 in
theorem pask_yes (b bk : Nat) (p q : PeerS) (h clock : Int) (ck : Nat) (hh0 : 0 ≤ h) (hh1 : h ≤ 4611686018427387903) (hck : ck < 18446744073709551616) (w : World) (hb : PB w b bk p) (hy : p.ask h clock ck = some q) :
    Calls Tryz.prog 116 #[at0 b, .int .i64 h, .int .i64 clock, .int .u64 (ck : Int)] w fun e w' =>
      ∃ v, e = .returned (.tuple #[v, .int .i64 0]) ∧ w'.ownsRow w.heap.size 5 1 v (queryP ck).bytes.length (bcells (queryP ck).bytes) ∧ PB w' b bk q ∧ Mod (· = b) w w' := by
  have hd := hide (pdue_any b bk p h w hb)
  unfold PeerS.ask at hy
  by_cases h1 : p.state = 0 ∧ p.due ≤ h ∧ ck ≠ 0
  · rw [if_pos h1] at hy
    cases hy
    replace hd := hide (decide_eq_true (show p.state = 0 ∧ p.due ≤ h from ⟨h1.1, h1.2.1⟩) ▸ hd.out)
    have hck0 : ¬ ((ck : Int) = 0) := by omega
    obtain ⟨k0, k1, k2, k3, k4, k5, k6⟩ := hb.cells
    have z1 := frozen_of_block hb 1
    have z4 := frozen_of_block hb 4
    have z5 := frozen_of_block hb 5
    have z6 := frozen_of_block hb 6
    have hset := heap_setCell_eq (heap_setCell_eq (heap_setCell_eq (heap_setCell_eq hb (o := 1) (.int .i64 1)) (o := 4) (.int .i64 h)) (o := 5) (.int .i64 clock)) (o := 6) (.int .u64 (ck : Int))
    have hms : Mod (· = b) w ((((w.setCell ⟨b, 1, none⟩ (.int .i64 1)).setCell ⟨b, 4, none⟩ (.int .i64 h)).setCell ⟨b, 5, none⟩ (.int .i64 clock)).setCell ⟨b, 6, none⟩ (.int .u64 (ck : Int))) := ((((Mod.refl _ _).set1 _ _).set1 _ _).set1 _ _).set1 _ _
    replace hb := hide hb
    replace hset := hide hset
    replace hms := hide hms
    clear h1
    go_enter Tryz.func116, Tryz.ntmps116
    go_wp2_with fail
    refine hd.out.mono ?_
    rintro e w' ⟨rfl, rfl⟩
    go_wp2_with fail
    refine (query_any ck hck _).mono ?_
    rintro e w2 ⟨v, rfl, hrow, hm⟩
    obtain ⟨a, c, rfl⟩ := own_value hrow
    have hpb := hide (hm.heap hset.out id)
    have hmf := hide (hms.out.trans (hm.mono (fun _ _ f => f.elim)))
    have hrow2 := hide (ownsRow_le hrow (show w.heap.size ≤ _ from hms.out.size))
    clear hrow hm
    go_wp2_with fail
    go_ret2
    exact ⟨_, rfl, hrow2.out, hpb.out, hmf.out⟩
  · rw [if_neg h1] at hy; cases hy
end Go.Proofs.YtjlilmonpklghaaGreatDoor

