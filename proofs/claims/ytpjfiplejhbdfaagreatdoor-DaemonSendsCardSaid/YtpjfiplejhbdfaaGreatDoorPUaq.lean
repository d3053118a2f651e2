/- median at int64 (contracts). quorum.Choose (contract). quorum.Votes, Select (contracts). quorum.Select (contract). 'for k, v := range m' over a map that nobody writes meanwhile, entry by entry. -/
import Derived.Test.YtpjfiplejhbdfaaGreatDoorPUap
import Derived.Test.YtpjfiplejhbdfaaGreatDoorPUab
import Derived.Sort.Grow
import Derived.Deep.OwnRows
import Derived.Maps.AppendAt
import Derived.WalkMore
import Derived.Test.YtpjfiplejhbdfaaGreatDoorPUad
import Derived.Maps.RangeRun
import Derived.MapKept
namespace Go.Proofs.YtpjfiplejhbdfaaGreatDoor
set_option linter.unusedSimpArgs false
open Go.RowKit Go.Sort

theorem sortI_len (l : List Int) : (sortI l).length = l.length := by simp [sortI]
theorem mod_sorted (w : World) (n blk off : Nat) (d : Array Int) (os : Array Obj) : Mod (· = blk) w (grow (putRow (Value.int .i64) (Sort.ahead w n) blk off d) os) := by
  refine ⟨rfl, rfl, rfl, by simp, fun k hk hn => ?_⟩
  rw [heap_grow_old _ _ (by simpa using hk)]
  show ((Sort.ahead w n).heap.modify blk _)[k]? = _
  rw [Array.getElem?_modify, if_neg (fun e => hn e.symm)]
  rfl
/-- Integers at a place. -/
def NumsAt (w : World) (g : Nat) (zs : List Int) : Prop := ∀ j z, zs[j]? = some z → w.cell? ⟨g, j, none⟩ = some (.int .i64 z)
theorem msorted_any (g c : Nat) (zs : List Int) (hn : zs.length ≤ 100000) (h0 : zs ≠ []) (w : World) (hc : NumsAt w g zs) :
    Calls Tryz.prog 213 #[.slice (some ⟨g, 0, none⟩) zs.length c] w fun e w' => ∃ g' c', e = .returned (.slice (some ⟨g', 0, none⟩) zs.length c') ∧ NumsAt w' g' (sortI zs) ∧ Mod NoB w w' := by
  have hp : 0 < zs.length := List.length_pos_iff.2 h0
  have h1 := hide (cloneL_any g 0 zs.length c (zs.map (Value.int .i64)) (by simp) hn (by intro u hu; obtain ⟨z, _, rfl⟩ := List.mem_map.1 hu; rfl) w (by
    intro j u hj
    rw [List.getElem?_map] at hj
    cases hz : zs[j]? with
    | none => rw [hz] at hj; cases hj
    | some z => rw [hz] at hj; cases hj; simpa using hc j z hz))
  clear hc
  go_enter Tryz.func213, Tryz.ntmps213
  go_wp2_with fail
  refine h1.out.mono ?_
  rintro e w2 ⟨v, rfl, hown, hm⟩
  rcases hown.2 with ⟨_, h⟩ | ⟨g2, cap, cur, rfl, hb, hg, hcap, hcm, hcs, htk⟩
  · omega
  have hlt := lt_of_block hg
  have hH : Holds (Value.int .i64) w2 g2 0 zs.toArray := by
    intro j hj
    have hj : j < zs.length := by simpa using hj
    refine ⟨cell_of_block hg (0 + j) ?_, frozen_of_block hg _⟩
    have h2 : (cur.toList.take (zs.length * 1))[j]? = (zs.map (Value.int .i64))[j]? := by rw [htk]
    rw [List.getElem?_take_of_lt (by omega), Array.getElem?_toList, List.getElem?_map] at h2
    rw [Nat.zero_add, h2]
    simp [hj]
  have h2 := hide (Tryz.slices_Sort_int g2 0 cap zs w2 hH hlt (by omega))
  replace hm := hide hm
  replace hH := hide hH
  clear hown hg htk
  go_wp2_with fail
  refine h2.out.mono ?_
  rintro e w3 ⟨rfl, n, os, hw3⟩
  have hm3 : Mod NoB w w3 := by
    rw [hw3]
    have hm := hm.out
    exact hm.into (mod_sorted w2 n g2 0 _ os) (fun k hk => Or.inr (by subst hk; exact hb))
  have hi3 : NumsAt w3 g2 (sortI zs) := by
    rw [hw3]
    intro j z hj
    have hjl : j < zs.length := by
      rw [← sortI_len zs]
      exact (List.getElem?_eq_some_iff.1 hj).1
    rw [cell?_grow _ _ _ (by simpa using hlt)]
    have := (holds_putRow (Value.int .i64) (Sort.ahead w2 n) g2 0 zs.toArray (zs.mergeSort fun x y => decide (x ≤ y)).toArray (holds_ahead _ _ _ _ _ _ hH.out) (by simp) j (by simpa using hjl)).1
    rw [Nat.zero_add] at this
    rw [this]
    unfold sortI at hj
    simp [List.getElem?_eq_some_iff.1 hj |>.2, getElem!_def, hj]
  clear hw3
  replace hm3 := hide hm3
  replace hi3 := hide hi3
  go_wp2_with fail
  go_ret
  exact ⟨_, _, rfl, hi3.out, hm3.out⟩
theorem mof_any (g c : Nat) (zs : List Int) (hn : zs.length ≤ 100000) (h0 : zs ≠ []) (w : World) (hc : NumsAt w g zs) :
    Calls Tryz.prog 181 #[.slice (some ⟨g, 0, none⟩) zs.length c] w fun e w' => e = .returned (.tuple #[.int .i64 (medI zs), .int .i64 0]) ∧ Mod NoB w w' := by
  have hp : 0 < zs.length := List.length_pos_iff.2 h0
  have h1 := hide (msorted_any g c zs hn h0 w hc)
  clear hc
  have hz : ((zs.length : Int) == 0) = false := by simpa using h0
  have hd : Int.tdiv ((zs.length : Int) - 1) 2 = (((zs.length - 1) / 2 : Nat) : Int) := by
    rw [Int.tdiv_eq_ediv_of_nonneg (by omega)]
    omega
  go_enter Tryz.func181, Tryz.ntmps181
  go_wp2_with fail
  refine h1.out.mono ?_
  rintro e w2 ⟨g2, c2, rfl, hi, hm⟩
  have hk : (zs.length - 1) / 2 < (sortI zs).length := by rw [sortI_len]; omega
  have hcell := hi ((zs.length - 1) / 2) _ (List.getElem?_eq_getElem hk)
  have hmed : (sortI zs)[(zs.length - 1) / 2] = medI zs := by unfold medI; simp [List.getD, hk]
  rw [hmed] at hcell
  replace hm := hide hm
  replace hi := hide hi
  clear hmed
  go_wp2_with fail
  go_ret2
  exact ⟨rfl, hm.out⟩
end Go.Proofs.YtpjfiplejhbdfaaGreatDoor

namespace Go.Proofs.YtpjfiplejhbdfaaGreatDoor
set_option linter.unusedSimpArgs false
open Go.RowKit

abbrev VoteS.cells (v : VoteS) : List Value := [.int .i64 v.server, .int .i64 v.sample.offset, .int .i64 v.sample.delay, .int .i64 v.sample.at', .int .i64 v.sample.slewed, .int .i64 v.offset]
def vcells (l : List VoteS) : List Value := l.flatMap VoteS.cells
theorem vcells_len (l : List VoteS) : (vcells l).length = l.length * 6 := by
  induction l with
  | nil => rfl
  | cons x l ih => simp [vcells] at ih ⊢; omega
theorem vcells_cons (x : VoteS) (l : List VoteS) : vcells (x :: l) = x.cells ++ vcells l := rfl
theorem vcells_app (l m : List VoteS) : vcells (l ++ m) = vcells l ++ vcells m := by simp [vcells]
/-- A slice value holds votes. -/
def VotesAt (w : World) (v : Value) (l : List VoteS) : Prop :=
  (v = .slice none 0 0 ∧ l = []) ∨ ∃ g c, v = .slice (some ⟨g, 0, none⟩) l.length c ∧ ∀ j u, (vcells l)[j]? = some u → w.cell? ⟨g, j, none⟩ = some u
theorem vote_cells {w : World} {g : Nat} {xs : List VoteS} (hc : ∀ j u, (vcells xs)[j]? = some u → w.cell? ⟨g, j, none⟩ = some u) {k : Nat} {x : VoteS} (hk : xs[k]? = some x) :
    ∀ j, j < 6 → ∀ u, x.cells[j]? = some u → w.cell? ⟨g, k * 6 + j, none⟩ = some u := by
  have key : ∀ (l : List VoteS) (k : Nat), l[k]? = some x → ∀ j, j < 6 → (vcells l)[k * 6 + j]? = x.cells[j]? := by
    intro l
    induction l with
    | nil => intro k h; simp at h
    | cons y l ih =>
      intro k h j hj
      cases k with
      | zero =>
        cases h
        rw [vcells_cons, List.getElem?_append_left (by simp; omega)]
        simp
      | succ k =>
        rw [vcells_cons, List.getElem?_append_right (by simp; omega)]
        rw [show (k + 1) * 6 + j - y.cells.length = k * 6 + j by simp; omega]
        exact ih k (by simpa using h) j hj
  intro j hj u hu
  exact hc _ _ (by rw [key xs k hk j hj]; exact hu)
theorem vote6 {w : World} {g : Nat} {xs : List VoteS} (hc : ∀ j u, (vcells xs)[j]? = some u → w.cell? ⟨g, j, none⟩ = some u) {k : Nat} {x : VoteS} (hk : xs[k]? = some x) :
    w.cell? ⟨g, k * 6, none⟩ = some (.int .i64 x.server) ∧ w.cell? ⟨g, k * 6 + 1, none⟩ = some (.int .i64 x.sample.offset) ∧ w.cell? ⟨g, k * 6 + 2, none⟩ = some (.int .i64 x.sample.delay) ∧
    w.cell? ⟨g, k * 6 + 3, none⟩ = some (.int .i64 x.sample.at') ∧ w.cell? ⟨g, k * 6 + 4, none⟩ = some (.int .i64 x.sample.slewed) ∧ w.cell? ⟨g, k * 6 + 5, none⟩ = some (.int .i64 x.offset) :=
  ⟨vote_cells hc hk 0 (by decide) _ rfl, vote_cells hc hk 1 (by decide) _ rfl, vote_cells hc hk 2 (by decide) _ rfl, vote_cells hc hk 3 (by decide) _ rfl, vote_cells hc hk 4 (by decide) _ rfl, vote_cells hc hk 5 (by decide) _ rfl⟩
theorem infoI64 : (Tryz.prog.info? 2).map (fun i => (i.zero, i.size, i.bytes)) = some (some (.int .i64 0), 1, 8) := by kernel_rfl
/-- The row of offsets, k of them written. -/
def offRow (l : List VoteS) (k : Nat) : Array Value := ((l.take k).map (fun v : VoteS => Value.int .i64 v.offset) ++ List.replicate (l.length - k) (Value.int .i64 0)).toArray
theorem offRow_set {l : List VoteS} {k : Nat} {x : VoteS} (hk : l[k]? = some x) : (offRow l k).setIfInBounds k (.int .i64 x.offset) = offRow l (k + 1) := by
  have hlt : k < l.length := (List.getElem?_eq_some_iff.1 hk).1
  unfold offRow
  rw [List.take_add_one, hk, List.setIfInBounds_toArray, List.set_append_right _ _ (by simp; omega)]
  rw [show k - (List.map (fun v : VoteS => Value.int IntKind.i64 v.offset) (List.take k l)).length = 0 by simp; omega, show l.length - k = (l.length - (k + 1)) + 1 by omega, List.replicate_succ]
  simp
theorem offRow_zero (l : List VoteS) : madeCells #[Value.int .i64 0] l.length = offRow l 0 := by
  unfold madeCells offRow
  apply Array.ext_getElem?
  intro k
  by_cases hk : k < l.length <;> simp [hk, Nat.mod_one]
theorem offRow_end (l : List VoteS) : offRow l l.length = ((l.map (·.offset)).map (Value.int .i64)).toArray := by
  unfold offRow
  simp
theorem offRow_size (l : List VoteS) (k : Nat) (hk : k ≤ l.length) : (offRow l k).size = l.length := by
  unfold offRow
  simp
  omega
set_option maxHeartbeats 4000000 in
theorem choose_any (q : Int) (v : Value) (l : List VoteS) (hl : l.length ≤ 1000) (w : World) (hv : VotesAt w v l) :
    Calls Tryz.prog 150 #[.int .i64 q, v] w fun e w' => e = .returned (.tuple #[.int .i64 (chooseS q l).1, .int .i64 (chooseS q l).2]) ∧ Mod NoB w w' := by
  obtain ⟨r, hr⟩ : ∃ r, chooseS q l = r := ⟨_, rfl⟩
  rw [hr]
  obtain ⟨p, c, hpv⟩ : ∃ p c, v = .slice p l.length c := by
    rcases hv with ⟨rfl, rfl⟩ | ⟨g, c, rfl, _⟩
    · exact ⟨none, 0, rfl⟩
    · exact ⟨_, _, rfl⟩
  unfold chooseS at hr
  by_cases hq : q < 1
  · rw [if_pos hq] at hr
    subst hr hpv
    clear hv
    go_enter Tryz.func150, Tryz.ntmps150
    go_wp2
    go_ret2
    exact ⟨rfl, Mod.refl _ _⟩
  rw [if_neg hq] at hr
  by_cases hlq : (l.length : Int) < q
  · rw [if_pos hlq] at hr
    subst hr hpv
    clear hv
    go_enter Tryz.func150, Tryz.ntmps150
    go_wp2
    go_ret2
    exact ⟨rfl, Mod.refl _ _⟩
  rw [if_neg hlq, if_neg (by omega)] at hr
  rcases hv with ⟨rfl, rfl⟩ | ⟨g, c2, rfl, hc⟩
  · simp at hlq; omega
  cases hpv
  replace hr := hide hr
  replace hc := hide hc
  have hmk := run_make_row' (P := Tryz.prog) 327 2 (.int .i64 0) 8 Tryz.underlying327 infoI64 rfl .i64 .i64 l.length (by omega) (by omega)
  go_enter Tryz.func150, Tryz.ntmps150
  go_wp2_with fail
  clear hmk
  rw [offRow_zero] at *
  have hB0 := heap_alloc_new w (.cells (offRow l 0) 2)
  have hm0 : Mod NoB w (w.alloc (.cells (offRow l 0) 2)) := (Mod.refl _ _).alloc _
  generalize w.alloc (.cells (offRow l 0) 2) = w2 at *
  generalize hB : w.heap.size = B at *
  replace hB0 := hide hB0
  replace hm0 := hide hm0
  have hl1 : (l.length : Int) ≤ 1000 := by omega
  go_loopw [22] (fun s22 wr => ∃ k : Nat, s22 = .int .i64 k ∧ k ≤ l.length ∧ wr.heap[B]? = some (.cells (offRow l k) 2 (0, 0)) ∧ Mod NoB w wr) (fun s22 wr => l.length - (match s22 with | .int _ i => i.toNat | _ => 0))
  case atStart => exact ⟨0, rfl, Nat.zero_le _, hB0.out, hm0.out⟩
  case round =>
    obtain ⟨k, rfl, hk, hBk, hmk⟩ := hrel
    by_cases hkl : k < l.length
    · obtain ⟨x, hx⟩ : ∃ x, l[k]? = some x := ⟨l[k], by simp [hkl]⟩
      obtain ⟨e0, e1, e2, e3, e4, e5⟩ := vote6 hc.out hx
      have e0 := hmk.cellAt id e0
      have e1 := hmk.cellAt id e1
      have e2 := hmk.cellAt id e2
      have e3 := hmk.cellAt id e3
      have e4 := hmk.cellAt id e4
      have e5 := hmk.cellAt id e5
      have hsz := offRow_size l k hk
      obtain ⟨y, hy⟩ : ∃ y, (offRow l k)[k]? = some y := ⟨(offRow l k)[k]'(by omega), by simp [hsz, hkl]⟩
      have b0 := cell_of_block hBk k hy
      have z0 := frozen_of_block hBk k
      have hlB := lt_of_block hBk
      have hfin : Hid (∀ o, ((wr.setCell ⟨B, k, none⟩ (.int .i64 x.offset)).alloc o).heap[B]? = some (.cells (offRow l (k + 1)) 2 (0, 0))) := hide (fun o => by
        rw [heap_alloc_old (by simpa [World.setCell] using hlB), heap_setCell_eq hBk, offRow_set hx])
      have hmf : Hid (∀ o, Mod NoB w ((wr.setCell ⟨B, k, none⟩ (.int .i64 x.offset)).alloc o)) := hide (fun o => (hmk.setCell (Or.inr (by rw [hB]; exact Nat.le_refl _)) _).alloc _)
      replace hx := hide hx
      replace hBk := hide hBk
      replace hmk := hide hmk
      replace hy := hide hy
      replace hsz := hide hsz
      have hki : (k : Int) < l.length := by omega
      have hwk : wrap64 ((k : Int) + 1) = ((k + 1 : Nat) : Int) := by rw [wrap64_eq, wrap_in ⟨by omega, by omega⟩]; omega
      clear hkl hk
      go_wp2_with fail
      go_roundw
      case rel => exact ⟨k + 1, rfl, by omega, hfin.out _, hmf.out _⟩
      case measure => simp; omega
    · have hkl2 : k = l.length := by omega
      subst hkl2
      have hki : ¬ ((l.length : Int) < l.length) := by omega
      rw [offRow_end] at hBk
      have hof := mof_any B l.length (l.map (·.offset)) (by simp; omega) (by intro h; simp at h; subst h; simp at hlq; omega) wr (by
        intro j z hj
        refine cell_of_block hBk j ?_
        rw [List.getElem?_toArray, List.getElem?_map, hj]
        rfl)
      rw [List.length_map] at hof
      replace hof := hide hof
      replace hBk := hide hBk
      replace hmk := hide hmk
      go_wp2_with fail
      refine hof.out.mono ?_
      rintro e w5 ⟨rfl, hm5⟩
      have hmm := hide (hmk.out.trans hm5)
      go_wp2_with fail
      go_ret2
      have hr := hr.out
      subst hr
      exact ⟨rfl, hmm.out⟩
end Go.Proofs.YtpjfiplejhbdfaaGreatDoor

namespace Go.Proofs.YtpjfiplejhbdfaaGreatDoor
set_option linter.unusedSimpArgs false
open Go.RowKit

/-- A store's places: its block, its ring's, its slice, what it holds. -/
structure StP where
  b : Nat
  rb : Nat
  sl : Value
  xs : List SampleS
/-- A slice of stores. -/
structure StoresAt (w : World) (p : Option Addr) (L : List StP) : Prop where
  cells : ∀ j s, L[j]? = some s → ∃ g, p = some ⟨g, 0, none⟩ ∧ w.cell? ⟨g, j, none⟩ = some (at0 s.b)
  each : ∀ s ∈ L, StoreO w s.b s.rb s.sl s.xs ∧ s.xs.length ≤ 8 ∧ ∀ x ∈ s.xs, x.Ok
theorem StoresAt.mod0 {w w' : World} {p : Option Addr} {L : List StP} (h : StoresAt w p L) (hm : Mod NoB w w') : StoresAt w' p L :=
  ⟨fun j s hj => by obtain ⟨g, h1, h2⟩ := h.cells j s hj; exact ⟨g, h1, hm.cellAt id h2⟩,
   fun s hs => by obtain ⟨h1, h2⟩ := h.each s hs; exact ⟨h1.mod hm id id (fun _ _ => id), h2⟩⟩
theorem infoVote : (Tryz.prog.info? 257).map (fun i => (i.zero, i.size, i.bytes)) = some (some (.agg #[.int .i64 0, .int .i64 0, .int .i64 0, .int .i64 0, .int .i64 0, .int .i64 0]), 6, 48) := by kernel_rfl
/-- The votes of the first k. -/
def votesTo (L : List StP) (h life slewed : Int) (k : Nat) : List VoteS := votesS ((L.take k).map (·.xs)) h life slewed
theorem votesTo_succ {L : List StP} {h life slewed : Int} {k : Nat} {s : StP} (hk : L[k]? = some s) :
    votesTo L h life slewed (k + 1) = match bestS s.xs h life with
      | none => votesTo L h life slewed k
      | some x => votesTo L h life slewed k ++ [⟨k, x, nowS x slewed⟩] := by
  have hlt : k < L.length := (List.getElem?_eq_some_iff.1 hk).1
  unfold votesTo votesS
  rw [List.take_add_one, hk]
  simp only [Option.toList_some, List.map_append, List.map_cons, List.map_nil, List.zipIdx_append, List.filterMap_append, List.length_map, List.length_take, Nat.min_eq_left (Nat.le_of_lt hlt)]
  cases hb : bestS s.xs h life <;> simp [hb]
theorem votesTo_len (L : List StP) (h life slewed : Int) (k : Nat) : (votesTo L h life slewed k).length ≤ L.length := by
  refine Nat.le_trans (votes_len _ _ _ _) ?_
  simp
  omega
theorem cells6_new (w : World) (a x y z u v : Value) (t : TypeId) : ∀ j r, [a, x, y, z, u, v][j]? = some r → (w.alloc (.cells #[a, x, y, z, u, v] t)).cell? ((⟨w.heap.size, 0, none⟩ : Addr).add j) = some r := by
  intro j r hj
  have hn := heap_alloc_new w (.cells #[a, x, y, z, u, v] t)
  rw [show ((⟨w.heap.size, 0, none⟩ : Addr).add j) = ⟨w.heap.size, j, none⟩ by simp [Addr.add]; try omega]
  exact cell_of_block hn j (by simpa using hj)
set_option maxRecDepth 100000 in
set_option maxHeartbeats 8000000 in
theorem votes_any (p : Option Addr) (c : Nat) (L : List StP) (h life slewed : Int) (hL : L.length ≤ 100) (hh : I64 h) (hz : I64 slewed) (w : World) (hs : StoresAt w p L) :
    Calls Tryz.prog 149 #[.slice p L.length c, .int .i64 h, .int .i64 life, .int .i64 slewed] w fun e w' =>
      ∃ v, e = .returned v ∧ w'.ownsRow w.heap.size 257 6 v (votesTo L h life slewed L.length).length (vcells (votesTo L h life slewed L.length)) ∧ Mod NoB w w' := by
  obtain ⟨i0, hi, hz0, hz1, hz2⟩ := info_parts infoVote
  replace hi := hide hi
  replace hz0 := hide hz0
  replace hz1 := hide hz1
  replace hz2 := hide hz2
  have hs := hide hs
  have hL1 : (L.length : Int) ≤ 100 := by omega
  go_enter Tryz.func149, Tryz.ntmps149
  go_wp2_with fail
  go_step3
  go_wp2_with fail
  go_step3
  go_wp2_with fail
  go_loopw [9, 17] (fun s9 s17 wr => ∃ (k : Nat) (n : Nat), s17 = .int .i64 k ∧ k ≤ L.length ∧ n = (votesTo L h life slewed k).length ∧ wr.ownsRow w.heap.size 257 6 s9 n (vcells (votesTo L h life slewed k)) ∧ Mod NoB w wr) (fun s9 s17 wr => L.length - (match s17 with | .int _ i => i.toNat | _ => 0))
  case atStart => exact ⟨0, 0, rfl, Nat.zero_le _, rfl, ⟨rfl, Or.inl ⟨rfl, rfl⟩⟩, Mod.refl _ _⟩
  case round =>
    obtain ⟨k, n, rfl, hk, hn, hown, hmk⟩ := hrel
    obtain ⟨a9, c9, rfl⟩ := own_value hown
    have hnl : n ≤ L.length := hn ▸ votesTo_len L h life slewed k
    by_cases hkl : k < L.length
    · obtain ⟨s, hsk⟩ : ∃ s, L[k]? = some s := ⟨L[k], by simp [hkl]⟩
      obtain ⟨g, hp, e0⟩ := hs.out.cells k s hsk
      subst hp
      have e0 := hmk.cellAt id e0
      obtain ⟨hst, hs8, hsok⟩ := hs.out.each s (List.mem_of_getElem? hsk)
      have hst := hst.mod hmk id id (fun _ _ => id)
      have hbe := best_any s.b s.rb s.sl s.xs h life slewed wr hst hs8 hsok hh hz
      have hvt := votesTo_succ (h := h) (life := life) (slewed := slewed) hsk
      have hki : (k : Int) < L.length := by omega
      have hwk : wrap64 ((k : Int) + 1) = ((k + 1 : Nat) : Int) := by rw [wrap64_eq, wrap_in ⟨by omega, by omega⟩]; omega
      clear hst hkl
      replace hvt := hide hvt
      replace hsk := hide hsk
      replace hbe := hide hbe
      replace hmk := hide hmk
      replace hown := hide hown
      replace hn := hide hn
      go_wp2_with fail
      refine hbe.out.mono ?_
      rintro e w5 ⟨hE, hm5⟩
      have hm6 := hide (hmk.out.trans hm5)
      have hown5 := hide (ownsRow_mod2 hown.out hm5 (fun _ _ => id))
      cases hb : bestS s.xs h life with
      | none =>
        rw [hb] at hE
        have hE : e = _ := hE
        subst hE
        have hvt2 : Hid (votesTo L h life slewed (k + 1) = votesTo L h life slewed k) := hide (by rw [hvt.out, hb])
        replace hb := hide hb
        go_wp2_with fail
        go_roundw
        case rel => exact ⟨k + 1, n, rfl, by omega, by rw [hvt2.out]; exact hn.out, by rw [hvt2.out]; exact ownsRow_mod2 (S := NoB) hown5.out ((Mod.refl _ _).alloc _) (fun _ _ => id), hm6.out.alloc _⟩
        case measure => simp; omega
      | some x =>
        rw [hb] at hE
        have hE : e = _ := hE
        subst hE
        have hvt2 : Hid (votesTo L h life slewed (k + 1) = votesTo L h life slewed k ++ [⟨k, x, nowS x slewed⟩]) := hide (by rw [hvt.out, hb])
        replace hb := hide hb
        have hl5 := hm6.out.size
        have hnews : Hid (∀ o j r, [Value.int .i64 k, .int .i64 x.offset, .int .i64 x.delay, .int .i64 x.at', .int .i64 x.slewed, .int .i64 (nowS x slewed)][j]? = some r →
            ((w5.alloc o).alloc (.cells #[.int .i64 k, .int .i64 x.offset, .int .i64 x.delay, .int .i64 x.at', .int .i64 x.slewed, .int .i64 (nowS x slewed)] 257)).cell? ((⟨w5.heap.size + 1, 0, none⟩ : Addr).add j) = some r) := hide (fun o j r hj => by
          have := cells6_new (w5.alloc o) (Value.int .i64 k) (.int .i64 x.offset) (.int .i64 x.delay) (.int .i64 x.at') (.int .i64 x.slewed) (.int .i64 (nowS x slewed)) 257 j r hj
          rwa [World.size_alloc] at this)
        have hone : Hid (∀ u ∈ [Value.int .i64 k, .int .i64 x.offset, .int .i64 x.delay, .int .i64 x.at', .int .i64 x.slewed, .int .i64 (nowS x slewed)], u.oneCell' = true) := hide (by
          intro u hu
          simp at hu
          rcases hu with rfl | rfl | rfl | rfl | rfl | rfl <;> rfl)
        go_wp2_with (at_builtin; refine wpList_append_own_at _ rfl (.tmp 33) (.tmp 38) 98 rfl w.heap.size 257 i0 (.agg #[.int .i64 0, .int .i64 0, .int .i64 0, .int .i64 0, .int .i64 0, .int .i64 0]) 6 48 Tryz.underlying98 hi.out hz0.out hz1.out hz2.out rfl (by decide) (.slice a9 n c9) n (vcells (votesTo L h life slewed k)) rfl (ownsRow_mod2 (S := NoB) hown5.out (((Mod.refl _ _).alloc _).alloc _) (fun _ _ => id)) ⟨w5.heap.size + 1, 0, none⟩ 1 1 [Value.int .i64 k, .int .i64 x.offset, .int .i64 x.delay, .int .i64 x.at', .int .i64 x.slewed, .int .i64 (nowS x slewed)] rfl rfl (hnews.out _) hone.out (by unfold maxLen; omega) (by omega) (by simp; omega) ?_; intro v' w7 hown' hgrow hat hblk)
        have hbase : ∀ g, (Value.slice a9 n c9).ownBlock = some g → w.heap.size ≤ g := by
          intro g hg
          rcases hown5.out.2 with ⟨h0, _⟩ | ⟨g', cap, cur, h0, hb2, _⟩
          · rw [h0] at hg; cases hg
          · rw [h0] at hg; cases hg; exact hb2
        have hm7 : Hid (Mod NoB w w7) := hide (by
          have hma := (hm6.out.alloc (.cells #[.int .i64 x.offset, .int .i64 x.delay, .int .i64 x.at', .int .i64 x.slewed] 185)).alloc (.cells #[.int .i64 k, .int .i64 x.offset, .int .i64 x.delay, .int .i64 x.at', .int .i64 x.slewed, .int .i64 (nowS x slewed)] 257)
          exact Mod.grown hma hgrow hbase)
        obtain ⟨a', c', rfl⟩ := own_value hown'
        replace hown' := hide hown'
        clear hgrow hat hblk hbase
        go_wp2_with fail
        go_roundw
        case rel => exact ⟨k + 1, n + 1, rfl, by omega, by rw [hvt2.out]; simp; exact hn.out, by rw [hvt2.out, vcells_app]; exact hown'.out, hm7.out⟩
        case measure => simp; omega
    · have hkl2 : k = L.length := by omega
      subst hkl2
      have hki : ¬ ((L.length : Int) < L.length) := by omega
      subst hn
      replace hown := hide hown
      replace hmk := hide hmk
      go_wp2_with fail
      try rw [Exit.noGoto_ret]
      go_ret
      exact ⟨_, rfl, hown.out, hmk.out⟩
end Go.Proofs.YtpjfiplejhbdfaaGreatDoor

namespace Go.Proofs.YtpjfiplejhbdfaaGreatDoor
set_option linter.unusedSimpArgs false
open Go.RowKit

theorem own_votes {w : World} {base : Nat} {v : Value} {l : List VoteS} (h : w.ownsRow base 257 6 v l.length (vcells l)) : VotesAt w v l := by
  rcases h.2 with ⟨h0, h1⟩ | ⟨g, cap, cur, hv, _, hg, _, _, hcs, htk⟩
  · exact Or.inl ⟨h0, List.length_eq_zero_iff.1 h1⟩
  · refine Or.inr ⟨g, cap, hv, fun j u hj => cell_of_block hg j ?_⟩
    have hlt : j < (vcells l).length := by
      rcases Nat.lt_or_ge j (vcells l).length with h | h
      · exact h
      · rw [List.getElem?_eq_none h] at hj; cases hj
    rw [vcells_len] at hlt
    rw [← htk, List.getElem?_take_of_lt hlt, Array.getElem?_toList] at hj
    exact hj
theorem select_any (q : Int) (hq : 1 ≤ q) (p : Option Addr) (c : Nat) (L : List StP) (h life slewed : Int) (hL : L.length ≤ 100) (hh : I64 h) (hz : I64 slewed) (w : World) (hs : StoresAt w p L) :
    Calls Tryz.prog 120 #[.int .i64 q, .slice p L.length c, .int .i64 h, .int .i64 life, .int .i64 slewed] w fun e w' =>
      ∃ v, e = .returned (.tuple #[.int .i64 (chooseS q (votesTo L h life slewed L.length)).1, v, .int .i64 (chooseS q (votesTo L h life slewed L.length)).2]) ∧
        w'.ownsRow w.heap.size 257 6 v (votesTo L h life slewed L.length).length (vcells (votesTo L h life slewed L.length)) ∧ Mod NoB w w' := by
  have h1 := hide (votes_any p c L h life slewed hL hh hz w hs)
  have hvl := votesTo_len L h life slewed L.length
  generalize votesTo L h life slewed L.length = V at *
  have hq1 : ¬ q < 1 := by omega
  clear hs
  go_enter Tryz.func120, Tryz.ntmps120
  go_wp2_with fail
  refine h1.out.mono ?_
  rintro e w2 ⟨v, rfl, hown, hm⟩
  have h2 := hide (choose_any q v V (by omega) w2 (own_votes hown))
  replace hown := hide hown
  replace hm := hide hm
  go_wp2_with fail
  refine h2.out.mono ?_
  rintro e w3 ⟨rfl, hm3⟩
  have hown3 := hide (ownsRow_mod2 hown.out hm3 (fun _ _ => id))
  have hmm := hide (hm.out.trans hm3)
  go_wp2_with fail
  go_ret3
  exact ⟨_, rfl, hown3.out, hmm.out⟩
end Go.Proofs.YtpjfiplejhbdfaaGreatDoor

namespace Go.Proofs.YtpjfiplejhbdfaaGreatDoor
open Go.RowKit

/-- The iterator in block r over the map in block bM, whose entries are es; seen: the stamps of those that have come. -/
structure ItAt (w : World) (r bM : Nat) (es : Array MapEntry) (clock : Nat) (seen : Array Nat) : Prop where
  it : ∃ c0, clock ≤ c0 ∧ w.heap[r]? = some (.mapIter (some bM) clock seen c0)
  map : w.heap[bM]? = some (.map es clock)
  old : ∀ x ∈ es.toList, x.born < clock
  apart : (es.toList.map (·.born)).Nodup

theorem ItAt.keep {S : Nat → Prop} {w w' : World} {r bM : Nat} {es : Array MapEntry} {clock : Nat} {seen : Array Nat} (h : ItAt w r bM es clock seen) (hm : Mod S w w') (h1 : ¬ S r) (h2 : ¬ S bM) : ItAt w' r bM es clock seen :=
  let ⟨c0, hc, hi⟩ := h.it
  ⟨⟨c0, hc, hm.heap hi h1⟩, hm.heap h.map h2, h.old, h.apart⟩

/-- How many are still to come. -/
def itLeft (w : World) (bM r : Nat) : Nat :=
  match w.heap[bM]?, w.heap[r]? with
  | some (.map es _), some (.mapIter _ _ seen _) => (Go.leftOf es seen).size
  | _, _ => 0
theorem ItAt.left {w : World} {r bM : Nat} {es : Array MapEntry} {clock : Nat} {seen : Array Nat} (h : ItAt w r bM es clock seen) : itLeft w bM r = (Go.leftOf es seen).size := by
  obtain ⟨c0, _, hi⟩ := h.it
  simp only [itLeft, h.map, hi]

section
variable {P : Program} {w : World} {ops : Array Oper} {rest : List Oper} {o : Oper} {a : Act} {Q : Exit → Act → World → Prop}

theorem wpList_range_raw (hg : o.guard = none) (m : Operand) (t : TypeId) (hop : o.op = Op.range t m) (k e : TypeId) (ht : P.underlying t = some (.map k e)) (bM : Nat) (es : Array MapEntry) (clock : Nat)
    (hm : a.eval m = .map (some bM)) (hb : w.heap[bM]? = some (.map es clock)) (hold : ∀ x ∈ es.toList, x.born < clock) (hap : (es.toList.map (·.born)).Nodup)
    (hK : ∀ w', ItAt w' w.heap.size bM es clock #[] → Mod NoB w w' → w'.heap.size = w.heap.size + 1 → wpList P ops Q rest (a.put o.dst (.pointer (some ⟨w.heap.size, 0, none⟩))) w') :
    wpList P ops Q (o :: rest) a w := by
  refine wpList_plain hg fun K' hK' => ?_
  have hlt := lt_of_block hb
  have hrun := run_range_map w t k e bM es clock ht hb
  unfold Oper.wp
  simp [execOp, hop, hm, hrun, Result.andThen]
  exact hK' _ _ (hK _ ⟨⟨clock, Nat.le_refl _, heap_alloc_new _ _⟩, (heap_alloc_old hlt _).trans hb, hold, hap⟩ ((Mod.refl _ _).alloc _) (by simp))

theorem wpList_next_raw (hg : o.guard = none) (it : Operand) (hop : o.op = Op.next it false) (r bM : Nat) (es : Array MapEntry) (clock : Nat) (seen : Array Nat)
    (hit : a.eval it = .pointer (some ⟨r, 0, none⟩)) (h : ItAt w r bM es clock seen)
    (hDone : (∀ x ∈ es.toList, seen.contains x.born = true) → wpList P ops Q rest (a.put o.dst (.tuple #[.bool false])) w)
    (hMore : ∀ (e : MapEntry) (w' : World), e ∈ es.toList → seen.contains e.born = false → ItAt w' r bM es clock (seen.push e.born) → Mod (· = r) w w' → w'.heap.size = w.heap.size → itLeft w' bM r < itLeft w bM r →
      (Instr.entry (.pointer (some ⟨r, 0, none⟩))).run P w' = .ok (.tuple #[e.key, e.val]) w' → wpList P ops Q rest (a.put o.dst (.tuple #[.bool true, e.key, e.val])) w') :
    wpList P ops Q (o :: rest) a w := by
  refine wpList_plain hg fun K' hK' => ?_
  unfold Oper.wp
  obtain ⟨c0, hc0, hi⟩ := h.it
  have hne : r ≠ bM := fun e => by subst e; rw [h.map] at hi; cases hi
  rcases run_next_at (P := P) w o.type r bM clock c0 seen es clock hi h.map h.old hc0 with ⟨h0, hrun⟩ | ⟨e, he, w1, hal, hrun⟩
  · simp [execOp, hop, hit, hrun, Result.andThen]
    exact hK' _ _ (hDone (all_seen es seen h0))
  · obtain ⟨hem, hes⟩ := mem_left he
    have hm1 : Mod NoB w w1 := by rcases hal with rfl | rfl; exact Mod.refl _ _; exact (Mod.refl _ _).drew
    have hsz1 : w1.heap.size = w.heap.size := by rcases hal with rfl | rfl <;> rfl
    have hi1 := hm1.heap hi id
    have hlt1 := lt_of_block hi1
    have hset : (ChangeMaps.setBlock w1 r (.mapIter (some bM) clock (seen.push e.born) clock)).heap[r]? = some (.mapIter (some bM) clock (seen.push e.born) clock) := by simp [ChangeMaps.setBlock, hlt1]
    have hmod : Mod (· = r) w1 (ChangeMaps.setBlock w1 r (.mapIter (some bM) clock (seen.push e.born) clock)) :=
      ⟨rfl, rfl, rfl, by simp [ChangeMaps.setBlock], fun k hk hn => by simp [ChangeMaps.setBlock]; rw [Array.getElem?_setIfInBounds_ne (fun e => hn e.symm)]⟩
    have hI : ItAt (ChangeMaps.setBlock w1 r (.mapIter (some bM) clock (seen.push e.born) clock)) r bM es clock (seen.push e.born) :=
      ⟨⟨clock, Nat.le_refl _, hset⟩, hmod.heap (hm1.heap h.map id) (fun e => hne e.symm), h.old, h.apart⟩
    simp [execOp, hop, hit, hrun, Result.andThen]
    refine hK' _ _ (hMore e _ hem hes hI ((hm1.mono (fun _ _ f => f.elim)).trans hmod) (by simp [ChangeMaps.setBlock, hsz1]) ?_ (run_entry_at _ r bM clock seen es clock e hset hI.map hem h.apart))
    rw [hI.left, h.left]
    exact left_shrinks es seen e he
end
end Go.Proofs.YtpjfiplejhbdfaaGreatDoor

