/- The word 'server'. -/
import Derived.Test.YtdcmjjinmnbaoaaDoorCfH
import Derived.Test.YtdcmjjinmnbaoaaDoorLxR
namespace Go.Proofs.YtdcmjjinmnbaoaaDoor
open Go.RowKit

/-- The config that is being read: its block, its servers in a row of the call's own. -/
def CfgAt (base bc : Nat) (a : Cfg) (w : World) : Prop :=
  ∃ v, w.heap[bc]? = some (.cells #[v, .int .i64 a.q, .int .i64 a.l, .int .i64 a.m, .int .i64 a.d, .int .i64 a.s] 25 (0, 0)) ∧ w.ownsRow base 3 1 v a.srv.length (a.srv.map (.int .i64))

theorem own_ints {w : World} {base : Nat} {p : Option Addr} {n c : Nat} {xs : List Int} (h : w.ownsRow base 3 1 (.slice p n c) xs.length (xs.map (.int .i64))) : n = xs.length ∧ IntsL w p xs ∧ (∀ b off, p = some ⟨b, off, none⟩ → base ≤ b) := by
  rcases h.2 with ⟨h0, h1⟩ | ⟨g, cap, cur, h0, hb, hg, hc, _, hsz, htk⟩
  · simp only [Value.slice.injEq] at h0
    obtain ⟨rfl, rfl, rfl⟩ := h0
    exact ⟨h1.symm, fun j hj => by omega, fun b off e => by cases e⟩
  · simp only [Value.slice.injEq] at h0
    obtain ⟨rfl, rfl, rfl⟩ := h0
    refine ⟨rfl, fun j hj => ⟨g, 0, rfl, lt_of_block hg, ?_⟩, fun b off e => by cases e; exact hb⟩
    have h2 : (cur.toList.take (xs.length * 1))[j]? = some (.int .i64 (xs.getD j 0)) := by rw [htk, List.getElem?_map]; simp [List.getD, hj]
    rw [Nat.mul_one, List.getElem?_take_of_lt hj, Array.getElem?_toList] at h2
    rw [Nat.zero_add]
    exact cell_of_block hg j h2

theorem infoInt : (Tryd.prog.info? 3).map (fun i => (i.zero, i.size, i.bytes)) = some (some (.int .i64 0), 1, 8) := by kernel_rfl

/-- How the word 'server' ends. -/
def ServerOut (base bc : Nat) (a : Cfg) (v : Int) (w : World) (e : Ending) (w' : World) : Prop :=
  (inI a.srv v = true ∧ e = .returned (.int .i64 12) ∧ Mod NoB w w') ∨ (inI a.srv v = false ∧ a.srv.length = 16 ∧ e = .returned (.int .i64 11) ∧ Mod NoB w w') ∨
  (inI a.srv v = false ∧ a.srv.length ≠ 16 ∧ e = .returned (.int .i64 0) ∧ CfgAt base bc { a with srv := a.srv ++ [v] } w')

set_option maxRecDepth 100000 in
set_option maxHeartbeats 8000000 in
theorem server_any (base bc B0 : Nat) (a : Cfg) (v : Int) (p : Option Addr) (n c : Nat) (hn : 0 < n) (w : World) (hB : w.heap[B0]? = some (.cells #[at0c bc 0] 46 (0, 0))) (hC : CfgAt base bc a w) (hx : ∃ b off, p = some ⟨b, off, none⟩ ∧ w.cell? ⟨b, off, none⟩ = some (.int .i64 v))
    (hbc : bc < base) (hB0 : B0 < base) (h16 : a.srv.length ≤ 1000) (hbw : base ≤ w.heap.size) :
    Calls Tryd.prog 43 #[.slice p n c, .pointer (some ⟨B0, 0, none⟩)] w fun e w' => ServerOut base bc a v w e w' ∧ Mod (fun x => x = bc ∨ base ≤ x) w w' := by
  obtain ⟨sv, hcb, hown⟩ := hC
  obtain ⟨sp, sn, sc, rfl⟩ := own_slice hown
  obtain ⟨rfl, hints, hge⟩ := own_ints hown
  obtain ⟨bx, ox, rfl, hxc⟩ := hx
  have b0 := cell_of_block hB 0 (v := at0c bc 0) rfl
  have b1 := cell_of_block hcb 0 (v := .slice sp a.srv.length sc) rfl
  have hct := fun (y : Since w) => Since.call y (fun w' h => contains_any sp a.srv sc v w' (hints.mod0 h) (by omega))
  replace hct := hide hct
  replace hints := hide hints
  have y0 := Since.cell b0
  have y1 := Since.cell b1
  have yx := Since.cell hxc
  have hn0 : (0 : Int) < (n : Int) := by omega
  cases hin : inI a.srv v with
  | true =>
    rw [hin] at hct
    clear b0 b1 hxc
    go_enter Tryd.func43, Tryd.ntmps43
    go_wp2_with fail
    refine wp_region_mod (by kernel_rfl) (by kernel_rfl) ?_
    repeat (go_big_quiet_step ((go_at_call 31; exact hct.out _)))
    refine wpQuiet_nil ?_
    rintro w3 ⟨⟨w3', hm3⟩, hw3⟩
    obtain rfl : w3 = w3' := hw3
    clear y0 y1 yx
    go_wp2
    go_ret
    exact ⟨Or.inl ⟨hin, rfl, hm3⟩, hm3.mono (fun _ _ h => h.elim)⟩
  | false =>
    rw [hin] at hct
    clear b0 b1 hxc
    go_enter Tryd.func43, Tryd.ntmps43
    go_wp2_with fail
    refine wp_region_mod (by kernel_rfl) (by kernel_rfl) ?_
    repeat (go_big_quiet_step ((go_at_call 31; exact hct.out _)))
    refine wpQuiet_nil ?_
    rintro w3 ⟨⟨w3', hm3⟩, hw3⟩
    obtain rfl : w3 = w3' := hw3
    have b0 : w3.cell? ⟨B0, 0, none⟩ = some (at0c bc 0) := y0 ⟨w3, hm3⟩
    have b1 : w3.cell? ⟨bc, 0, none⟩ = some (.slice sp a.srv.length sc) := y1 ⟨w3, hm3⟩
    have hxc : w3.cell? ⟨bx, ox, none⟩ = some (.int .i64 v) := yx ⟨w3, hm3⟩
    clear y0 y1 yx hct
    by_cases hl16 : a.srv.length = 16
    · have hlb : ((a.srv.length : Int) == 16) = true := by rw [hl16]; rfl
      go_wp2
      go_ret
      exact ⟨Or.inr (Or.inl ⟨hin, hl16, rfl, hm3⟩), hm3.mono (fun _ _ h => h.elim)⟩
    · have hlb : ((a.srv.length : Int) == 16) = false := beq_eq_false_iff_ne.mpr (by omega)
      go_wp2_with fail
      obtain ⟨i0, hi, hz0, hz1, hz2⟩ := info_parts infoInt
      have hcb3 := hm3.heap hcb id
      have hown3 := ownsRow_mod hown hm3 (fun _ h => h.elim)
      have hfr := frozen_of_block hcb3 0
      have hbw3 : base ≤ w3.heap.size := Nat.le_trans hbw hm3.size
      have lB := lt_of_cell b0
      have lC := lt_of_cell b1
      have lX := lt_of_cell hxc
      have hB3 := hide (hm3.heap hB id)
      replace hown3 := hide hown3
      replace hcb3 := hide hcb3
      replace hi := hide hi
      replace hz0 := hide hz0
      replace hz1 := hide hz1
      replace hz2 := hide hz2
      have hl16h := hide hl16
      clear hlb hl16
      go_region_law (
        (refine step_append_own rfl (.tmp 24) (.tmp 28) 23 rfl base 3 i0 (.int .i64 0) 1 8 Tryd.underlying23 hi.out hz0.out hz1.out hz2.out rfl (by decide) (.slice sp a.srv.length sc) a.srv.length (a.srv.map (.int .i64)) rfl ?o ⟨_, 0, none⟩ 1 1 [.int .i64 v] rfl rfl ?n ?one ?m ?mb ?base ?_; (case o => exact (ownsRow_mod (S := NoB) hown3.out ((Mod.refl _ _).alloc _).drew (fun _ f => f.elim))); (case n => exact cell_one_new _ _ _); (case one => (intro u hu; simp at hu; subst hu; rfl)); (case m => (unfold maxLen; omega)); (case mb => omega); (case base => (simp; omega)); intro v' w7 hown' hgrow _; obtain ⟨p', n', c', rfl⟩ := own_slice hown'; have hm7 : Mod (fun x => base ≤ x) w3 w7 := Mod.grownIn (((Mod.refl _ _).alloc _).drew) hgrow (own_ge hown3.out); have hb7 := hm7.heap hcb3.out (by omega); have d1 := cell_of_block hb7 0 (v := .slice sp a.srv.length sc) rfl; have d2 := frozen_of_block hb7 0; have d3 := cell_of_block (hm7.heap hB3.out (by omega)) 0 (v := at0c bc 0) rfl; replace hown' := hide hown'; replace hb7 := hide hb7; replace hm7 := hide hm7; clear hgrow))
      all_goals
        go_wp2
        go_ret
        have hset : Mod (· = bc) w7 (w7.setCell ⟨bc, 0, none⟩ (.slice p' n' c')) := (Mod.refl _ _).set1 _ _
        have hmf : Mod (fun x => x = bc ∨ base ≤ x) w (w7.setCell ⟨bc, 0, none⟩ (.slice p' n' c')) := ((hm3.mono (fun _ _ h => h.elim)).trans (hm7.out.mono fun x _ h => Or.inr h)).trans (hset.mono fun x _ h => Or.inl h)
        have hcf : (w7.setCell ⟨bc, 0, none⟩ (.slice p' n' c')).heap[bc]? = some (.cells #[.slice p' n' c', .int .i64 a.q, .int .i64 a.l, .int .i64 a.m, .int .i64 a.d, .int .i64 a.s] 25 (0, 0)) := by
          rw [heap_setCell_eq hb7.out]; simp
        have hof : (w7.setCell ⟨bc, 0, none⟩ (.slice p' n' c')).ownsRow base 3 1 (.slice p' n' c') (a.srv ++ [v]).length ((a.srv ++ [v]).map (.int .i64)) := by
          have := ownsRow_mod (S := (· = bc)) hown'.out hset (fun b e => by omega)
          simpa using this
        exact ⟨Or.inr (Or.inr ⟨hin, hl16h.out, rfl, .slice p' n' c', hcf, hof⟩), hmf⟩
end Go.Proofs.YtdcmjjinmnbaoaaDoor
