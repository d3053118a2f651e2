/- quorum.Votes, Select (contracts). quorum.Select (contract). 'for k, v := range m' over a map that nobody writes meanwhile, entry by entry. Package wake, at int (contracts). wake.Next, at int (contract). Package backoff: New, and the methods, as contracts on the block that holds the object. -/
import Derived.Test.YtjlilmonpklghaaGreatDoorPUaq
import Derived.Maps.AppendAt
import Derived.WalkMore
import Derived.Test.YtjlilmonpklghaaGreatDoorPUad
import Derived.Maps.RangeRun
import Derived.MapKept
import Derived.Test.YtjlilmonpklghaaGreatDoorPUae
import Derived.Test.YtjlilmonpklghaaGreatDoorPUaa
import Derived.StillTailTactics
import Derived.Test.YtjlilmonpklghaaGreatDoorPUac
namespace Go.Proofs.YtjlilmonpklghaaGreatDoor
set_option linter.unusedSimpArgs false
open Go.RowKit

/-- A store's places: its block, its ring's, its slice, what it holds. -/
structure StP where
  b : Nat
  rb : Nat
  sl : Value
  xs : List SampleS
/-- A slice of stores. -/
structure StoresAt (w : World) (p : Option Addr) (L : List StP) : Prop where
  cells : ∀ j s, L[j]? = some s → ∃ g, p = some ⟨g, 0, none⟩ ∧ w.cell? ⟨g, j, none⟩ = some (at0 s.b)
  each : ∀ s ∈ L, StoreO w s.b s.rb s.sl s.xs ∧ s.xs.length ≤ 8 ∧ ∀ x ∈ s.xs, x.Ok
theorem StoresAt.mod0 {w w' : World} {p : Option Addr} {L : List StP} (h : StoresAt w p L) (hm : Mod NoB w w') : StoresAt w' p L :=
  ⟨fun j s hj => by obtain ⟨g, h1, h2⟩ := h.cells j s hj; exact ⟨g, h1, hm.cellAt id h2⟩,
   fun s hs => by obtain ⟨h1, h2⟩ := h.each s hs; exact ⟨h1.mod hm id id (fun _ _ => id), h2⟩⟩
theorem infoVote : (Tryz.prog.info? 96).map (fun i => (i.zero, i.size, i.bytes)) = some (some (.agg #[.int .i64 0, .int .i64 0, .int .i64 0, .int .i64 0, .int .i64 0, .int .i64 0]), 6, 48) := by kernel_rfl
/-- The votes of the first k. -/
def votesTo (L : List StP) (h life slewed : Int) (k : Nat) : List VoteS := votesS ((L.take k).map (·.xs)) h life slewed
theorem votesTo_succ {L : List StP} {h life slewed : Int} {k : Nat} {s : StP} (hk : L[k]? = some s) :
    votesTo L h life slewed (k + 1) = match bestS s.xs h life with
      | none => votesTo L h life slewed k
      | some x => votesTo L h life slewed k ++ [⟨k, x, nowS x slewed⟩] := by
  have hlt : k < L.length := (List.getElem?_eq_some_iff.1 hk).1
  unfold votesTo votesS
  rw [List.take_add_one, hk]
  simp only [Option.toList_some, List.map_append, List.map_cons, List.map_nil, List.zipIdx_append, List.filterMap_append, List.length_map, List.length_take, Nat.min_eq_left (Nat.le_of_lt hlt)]
  cases hb : bestS s.xs h life <;> simp [hb]
theorem votesTo_len (L : List StP) (h life slewed : Int) (k : Nat) : (votesTo L h life slewed k).length ≤ L.length := by
  refine Nat.le_trans (votes_len _ _ _ _) ?_
  simp
  omega
theorem cells6_new (w : World) (a x y z u v : Value) (t : TypeId) : ∀ j r, [a, x, y, z, u, v][j]? = some r → (w.alloc (.cells #[a, x, y, z, u, v] t)).cell? ((⟨w.heap.size, 0, none⟩ : Addr).add j) = some r := by
  intro j r hj
  have hn := heap_alloc_new w (.cells #[a, x, y, z, u, v] t)
  rw [show ((⟨w.heap.size, 0, none⟩ : Addr).add j) = ⟨w.heap.size, j, none⟩ by simp [Addr.add]; try omega]
  exact cell_of_block hn j (by simpa using hj)
set_option maxRecDepth 100000 in
set_option maxHeartbeats 8000000 in
theorem votes_any (p : Option Addr) (c : Nat) (L : List StP) (h life slewed : Int) (hL : L.length ≤ 100) (hh : I64 h) (hz : I64 slewed) (w : World) (hs : StoresAt w p L) :
    Calls Tryz.prog 211 #[.slice p L.length c, .int .i64 h, .int .i64 life, .int .i64 slewed] w fun e w' =>
      ∃ v, e = .returned v ∧ w'.ownsRow w.heap.size 96 6 v (votesTo L h life slewed L.length).length (vcells (votesTo L h life slewed L.length)) ∧ Mod NoB w w' := by
  obtain ⟨i0, hi, hz0, hz1, hz2⟩ := info_parts infoVote
  replace hi := hide hi
  replace hz0 := hide hz0
  replace hz1 := hide hz1
  replace hz2 := hide hz2
  have hs := hide hs
  have hL1 : (L.length : Int) ≤ 100 := by omega
  go_enter Tryz.func211, Tryz.ntmps211
  go_wp2_with fail
  go_step3
  go_wp2_with fail
  go_step3
  go_wp2_with fail
  go_loopw [9, 17] (fun s9 s17 wr => ∃ (k : Nat) (n : Nat), s17 = .int .i64 k ∧ k ≤ L.length ∧ n = (votesTo L h life slewed k).length ∧ wr.ownsRow w.heap.size 96 6 s9 n (vcells (votesTo L h life slewed k)) ∧ Mod NoB w wr) (fun s9 s17 wr => L.length - (match s17 with | .int _ i => i.toNat | _ => 0))
  case atStart => exact ⟨0, 0, rfl, Nat.zero_le _, rfl, ⟨rfl, Or.inl ⟨rfl, rfl⟩⟩, Mod.refl _ _⟩
  case round =>
    obtain ⟨k, n, rfl, hk, hn, hown, hmk⟩ := hrel
    obtain ⟨a9, c9, rfl⟩ := own_value hown
    have hnl : n ≤ L.length := hn ▸ votesTo_len L h life slewed k
    by_cases hkl : k < L.length
    · obtain ⟨s, hsk⟩ : ∃ s, L[k]? = some s := ⟨L[k], by simp [hkl]⟩
      obtain ⟨g, hp, e0⟩ := hs.out.cells k s hsk
      subst hp
      have e0 := hmk.cellAt id e0
      obtain ⟨hst, hs8, hsok⟩ := hs.out.each s (List.mem_of_getElem? hsk)
      have hst := hst.mod hmk id id (fun _ _ => id)
      have hbe := best_any s.b s.rb s.sl s.xs h life slewed wr hst hs8 hsok hh hz
      have hvt := votesTo_succ (h := h) (life := life) (slewed := slewed) hsk
      have hki : (k : Int) < L.length := by omega
      have hwk : wrap64 ((k : Int) + 1) = ((k + 1 : Nat) : Int) := by rw [wrap64_eq, wrap_in ⟨by omega, by omega⟩]; omega
      clear hst hkl
      replace hvt := hide hvt
      replace hsk := hide hsk
      replace hbe := hide hbe
      replace hmk := hide hmk
      replace hown := hide hown
      replace hn := hide hn
      go_wp2_with fail
      refine hbe.out.mono ?_
      rintro e w5 ⟨hE, hm5⟩
      have hm6 := hide (hmk.out.trans hm5)
      have hown5 := hide (ownsRow_mod2 hown.out hm5 (fun _ _ => id))
      cases hb : bestS s.xs h life with
      | none =>
        rw [hb] at hE
        have hE : e = _ := hE
        subst hE
        have hvt2 : Hid (votesTo L h life slewed (k + 1) = votesTo L h life slewed k) := hide (by rw [hvt.out, hb])
        replace hb := hide hb
        go_wp2_with fail
        go_roundw
        case rel => exact ⟨k + 1, n, rfl, by omega, by rw [hvt2.out]; exact hn.out, by rw [hvt2.out]; exact ownsRow_mod2 (S := NoB) hown5.out ((Mod.refl _ _).alloc _) (fun _ _ => id), hm6.out.alloc _⟩
        case measure => simp; omega
      | some x =>
        rw [hb] at hE
        have hE : e = _ := hE
        subst hE
        have hvt2 : Hid (votesTo L h life slewed (k + 1) = votesTo L h life slewed k ++ [⟨k, x, nowS x slewed⟩]) := hide (by rw [hvt.out, hb])
        replace hb := hide hb
        have hl5 := hm6.out.size
        have hnews : Hid (∀ o j r, [Value.int .i64 k, .int .i64 x.offset, .int .i64 x.delay, .int .i64 x.at', .int .i64 x.slewed, .int .i64 (nowS x slewed)][j]? = some r →
            ((w5.alloc o).alloc (.cells #[.int .i64 k, .int .i64 x.offset, .int .i64 x.delay, .int .i64 x.at', .int .i64 x.slewed, .int .i64 (nowS x slewed)] 96)).cell? ((⟨w5.heap.size + 1, 0, none⟩ : Addr).add j) = some r) := hide (fun o j r hj => by
          have := cells6_new (w5.alloc o) (Value.int .i64 k) (.int .i64 x.offset) (.int .i64 x.delay) (.int .i64 x.at') (.int .i64 x.slewed) (.int .i64 (nowS x slewed)) 96 j r hj
          rwa [World.size_alloc] at this)
        have hone : Hid (∀ u ∈ [Value.int .i64 k, .int .i64 x.offset, .int .i64 x.delay, .int .i64 x.at', .int .i64 x.slewed, .int .i64 (nowS x slewed)], u.oneCell' = true) := hide (by
          intro u hu
          simp at hu
          rcases hu with rfl | rfl | rfl | rfl | rfl | rfl <;> rfl)
        go_wp2_with (at_builtin; refine wpList_append_own_at _ rfl (.tmp 33) (.tmp 38) 87 rfl w.heap.size 96 i0 (.agg #[.int .i64 0, .int .i64 0, .int .i64 0, .int .i64 0, .int .i64 0, .int .i64 0]) 6 48 Tryz.underlying87 hi.out hz0.out hz1.out hz2.out rfl (by decide) (.slice a9 n c9) n (vcells (votesTo L h life slewed k)) rfl (ownsRow_mod2 (S := NoB) hown5.out (((Mod.refl _ _).alloc _).alloc _) (fun _ _ => id)) ⟨w5.heap.size + 1, 0, none⟩ 1 1 [Value.int .i64 k, .int .i64 x.offset, .int .i64 x.delay, .int .i64 x.at', .int .i64 x.slewed, .int .i64 (nowS x slewed)] rfl rfl (hnews.out _) hone.out (by unfold maxLen; omega) (by omega) (by simp; omega) ?_; intro v' w7 hown' hgrow hat hblk)
        have hbase : ∀ g, (Value.slice a9 n c9).ownBlock = some g → w.heap.size ≤ g := by
          intro g hg
          rcases hown5.out.2 with ⟨h0, _⟩ | ⟨g', cap, cur, h0, hb2, _⟩
          · rw [h0] at hg; cases hg
          · rw [h0] at hg; cases hg; exact hb2
        have hm7 : Hid (Mod NoB w w7) := hide (by
          have hma := (hm6.out.alloc (.cells #[.int .i64 x.offset, .int .i64 x.delay, .int .i64 x.at', .int .i64 x.slewed] 94)).alloc (.cells #[.int .i64 k, .int .i64 x.offset, .int .i64 x.delay, .int .i64 x.at', .int .i64 x.slewed, .int .i64 (nowS x slewed)] 96)
          exact Mod.grown hma hgrow hbase)
        obtain ⟨a', c', rfl⟩ := own_value hown'
        replace hown' := hide hown'
        clear hgrow hat hblk hbase
        go_wp2_with fail
        go_roundw
        case rel => exact ⟨k + 1, n + 1, rfl, by omega, by rw [hvt2.out]; simp; exact hn.out, by rw [hvt2.out, vcells_app]; exact hown'.out, hm7.out⟩
        case measure => simp; omega
    · have hkl2 : k = L.length := by omega
      subst hkl2
      have hki : ¬ ((L.length : Int) < L.length) := by omega
      subst hn
      replace hown := hide hown
      replace hmk := hide hmk
      go_wp2_with fail
      try rw [Exit.noGoto_ret]
      go_ret
      exact ⟨_, rfl, hown.out, hmk.out⟩
end Go.Proofs.YtjlilmonpklghaaGreatDoor

namespace Go.Proofs.YtjlilmonpklghaaGreatDoor
set_option linter.unusedSimpArgs false
open Go.RowKit

theorem own_votes {w : World} {base : Nat} {v : Value} {l : List VoteS} (h : w.ownsRow base 96 6 v l.length (vcells l)) : VotesAt w v l := by
  rcases h.2 with ⟨h0, h1⟩ | ⟨g, cap, cur, hv, _, hg, _, _, hcs, htk⟩
  · exact Or.inl ⟨h0, List.length_eq_zero_iff.1 h1⟩
  · refine Or.inr ⟨g, cap, hv, fun j u hj => cell_of_block hg j ?_⟩
    have hlt : j < (vcells l).length := by
      rcases Nat.lt_or_ge j (vcells l).length with h | h
      · exact h
      · rw [List.getElem?_eq_none h] at hj; cases hj
    rw [vcells_len] at hlt
    rw [← htk, List.getElem?_take_of_lt hlt, Array.getElem?_toList] at hj
    exact hj
theorem select_any (q : Int) (hq : 1 ≤ q) (p : Option Addr) (c : Nat) (L : List StP) (h life slewed : Int) (hL : L.length ≤ 100) (hh : I64 h) (hz : I64 slewed) (w : World) (hs : StoresAt w p L) :
    Calls Tryz.prog 176 #[.int .i64 q, .slice p L.length c, .int .i64 h, .int .i64 life, .int .i64 slewed] w fun e w' =>
      ∃ v, e = .returned (.tuple #[.int .i64 (chooseS q (votesTo L h life slewed L.length)).1, v, .int .i64 (chooseS q (votesTo L h life slewed L.length)).2]) ∧
        w'.ownsRow w.heap.size 96 6 v (votesTo L h life slewed L.length).length (vcells (votesTo L h life slewed L.length)) ∧ Mod NoB w w' := by
  have h1 := hide (votes_any p c L h life slewed hL hh hz w hs)
  have hvl := votesTo_len L h life slewed L.length
  generalize votesTo L h life slewed L.length = V at *
  have hq1 : ¬ q < 1 := by omega
  clear hs
  go_enter Tryz.func176, Tryz.ntmps176
  go_wp2_with fail
  refine h1.out.mono ?_
  rintro e w2 ⟨v, rfl, hown, hm⟩
  have h2 := hide (choose_any q v V (by omega) w2 (own_votes hown))
  replace hown := hide hown
  replace hm := hide hm
  go_wp2_with fail
  refine h2.out.mono ?_
  rintro e w3 ⟨rfl, hm3⟩
  have hown3 := hide (ownsRow_mod2 hown.out hm3 (fun _ _ => id))
  have hmm := hide (hm.out.trans hm3)
  go_wp2_with fail
  go_ret3
  exact ⟨_, rfl, hown3.out, hmm.out⟩
end Go.Proofs.YtjlilmonpklghaaGreatDoor

namespace Go.Proofs.YtjlilmonpklghaaGreatDoor
open Go.RowKit

/-- The iterator in block r over the map in block bM, whose entries are es; seen: the stamps of those that have come. -/
structure ItAt (w : World) (r bM : Nat) (es : Array MapEntry) (clock : Nat) (seen : Array Nat) : Prop where
  it : ∃ c0, clock ≤ c0 ∧ w.heap[r]? = some (.mapIter (some bM) clock seen c0)
  map : w.heap[bM]? = some (.map es clock)
  old : ∀ x ∈ es.toList, x.born < clock
  apart : (es.toList.map (·.born)).Nodup

theorem ItAt.keep {S : Nat → Prop} {w w' : World} {r bM : Nat} {es : Array MapEntry} {clock : Nat} {seen : Array Nat} (h : ItAt w r bM es clock seen) (hm : Mod S w w') (h1 : ¬ S r) (h2 : ¬ S bM) : ItAt w' r bM es clock seen :=
  let ⟨c0, hc, hi⟩ := h.it
  ⟨⟨c0, hc, hm.heap hi h1⟩, hm.heap h.map h2, h.old, h.apart⟩

/-- How many are still to come. -/
def itLeft (w : World) (bM r : Nat) : Nat :=
  match w.heap[bM]?, w.heap[r]? with
  | some (.map es _), some (.mapIter _ _ seen _) => (Go.leftOf es seen).size
  | _, _ => 0
theorem ItAt.left {w : World} {r bM : Nat} {es : Array MapEntry} {clock : Nat} {seen : Array Nat} (h : ItAt w r bM es clock seen) : itLeft w bM r = (Go.leftOf es seen).size := by
  obtain ⟨c0, _, hi⟩ := h.it
  simp only [itLeft, h.map, hi]

section
variable {P : Program} {w : World} {ops : Array Oper} {rest : List Oper} {o : Oper} {a : Act} {Q : Exit → Act → World → Prop}

theorem wpList_range_raw (hg : o.guard = none) (m : Operand) (t : TypeId) (hop : o.op = Op.range t m) (k e : TypeId) (ht : P.underlying t = some (.map k e)) (bM : Nat) (es : Array MapEntry) (clock : Nat)
    (hm : a.eval m = .map (some bM)) (hb : w.heap[bM]? = some (.map es clock)) (hold : ∀ x ∈ es.toList, x.born < clock) (hap : (es.toList.map (·.born)).Nodup)
    (hK : ∀ w', ItAt w' w.heap.size bM es clock #[] → Mod NoB w w' → w'.heap.size = w.heap.size + 1 → wpList P ops Q rest (a.put o.dst (.pointer (some ⟨w.heap.size, 0, none⟩))) w') :
    wpList P ops Q (o :: rest) a w := by
  refine wpList_plain hg fun K' hK' => ?_
  have hlt := lt_of_block hb
  have hrun := run_range_map w t k e bM es clock ht hb
  unfold Oper.wp
  simp [execOp, hop, hm, hrun, Result.andThen]
  exact hK' _ _ (hK _ ⟨⟨clock, Nat.le_refl _, heap_alloc_new _ _⟩, (heap_alloc_old hlt _).trans hb, hold, hap⟩ ((Mod.refl _ _).alloc _) (by simp))

theorem wpList_next_raw (hg : o.guard = none) (it : Operand) (hop : o.op = Op.next it false) (r bM : Nat) (es : Array MapEntry) (clock : Nat) (seen : Array Nat)
    (hit : a.eval it = .pointer (some ⟨r, 0, none⟩)) (h : ItAt w r bM es clock seen)
    (hDone : (∀ x ∈ es.toList, seen.contains x.born = true) → wpList P ops Q rest (a.put o.dst (.tuple #[.bool false])) w)
    (hMore : ∀ (e : MapEntry) (w' : World), e ∈ es.toList → seen.contains e.born = false → ItAt w' r bM es clock (seen.push e.born) → Mod (· = r) w w' → w'.heap.size = w.heap.size → itLeft w' bM r < itLeft w bM r →
      (Instr.entry (.pointer (some ⟨r, 0, none⟩))).run P w' = .ok (.tuple #[e.key, e.val]) w' → wpList P ops Q rest (a.put o.dst (.tuple #[.bool true, e.key, e.val])) w') :
    wpList P ops Q (o :: rest) a w := by
  refine wpList_plain hg fun K' hK' => ?_
  unfold Oper.wp
  obtain ⟨c0, hc0, hi⟩ := h.it
  have hne : r ≠ bM := fun e => by subst e; rw [h.map] at hi; cases hi
  rcases run_next_at (P := P) w o.type r bM clock c0 seen es clock hi h.map h.old hc0 with ⟨h0, hrun⟩ | ⟨e, he, w1, hal, hrun⟩
  · simp [execOp, hop, hit, hrun, Result.andThen]
    exact hK' _ _ (hDone (all_seen es seen h0))
  · obtain ⟨hem, hes⟩ := mem_left he
    have hm1 : Mod NoB w w1 := by rcases hal with rfl | rfl; exact Mod.refl _ _; exact (Mod.refl _ _).drew
    have hsz1 : w1.heap.size = w.heap.size := by rcases hal with rfl | rfl <;> rfl
    have hi1 := hm1.heap hi id
    have hlt1 := lt_of_block hi1
    have hset : (ChangeMaps.setBlock w1 r (.mapIter (some bM) clock (seen.push e.born) clock)).heap[r]? = some (.mapIter (some bM) clock (seen.push e.born) clock) := by simp [ChangeMaps.setBlock, hlt1]
    have hmod : Mod (· = r) w1 (ChangeMaps.setBlock w1 r (.mapIter (some bM) clock (seen.push e.born) clock)) :=
      ⟨rfl, rfl, rfl, by simp [ChangeMaps.setBlock], fun k hk hn => by simp [ChangeMaps.setBlock]; rw [Array.getElem?_setIfInBounds_ne (fun e => hn e.symm)]⟩
    have hI : ItAt (ChangeMaps.setBlock w1 r (.mapIter (some bM) clock (seen.push e.born) clock)) r bM es clock (seen.push e.born) :=
      ⟨⟨clock, Nat.le_refl _, hset⟩, hmod.heap (hm1.heap h.map id) (fun e => hne e.symm), h.old, h.apart⟩
    simp [execOp, hop, hit, hrun, Result.andThen]
    refine hK' _ _ (hMore e _ hem hes hI ((hm1.mono (fun _ _ f => f.elim)).trans hmod) (by simp [ChangeMaps.setBlock, hsz1]) ?_ (run_entry_at _ r bM clock seen es clock e hset hI.map hem h.apart))
    rw [hI.left, h.left]
    exact left_shrinks es seen e he
end
end Go.Proofs.YtjlilmonpklghaaGreatDoor

namespace Go.Proofs.YtjlilmonpklghaaGreatDoor
set_option linter.unusedSimpArgs false
open Go.RowKit Go.MapKept

def qent (i : Nat) (x : Int × Int) : MapEntry := { key := .int .i64 i, val := .agg #[.int .i64 x.1, .int .i64 x.2], born := i }
def qes (L : List (Int × Int)) : List MapEntry := (List.range L.length).map fun i => qent i (L.getD i (0, 0))
theorem qes_len (L : List (Int × Int)) : (qes L).length = L.length := by simp [qes]
theorem qes_at (L : List (Int × Int)) (i : Nat) (h : i < L.length) : (qes L)[i]? = some (qent i (L.getD i (0, 0))) := by simp [qes, h]
theorem qes_mem {L : List (Int × Int)} {x : MapEntry} (h : x ∈ qes L) : ∃ i, i < L.length ∧ x = qent i (L.getD i (0, 0)) := by
  obtain ⟨i, hi, rfl⟩ := List.mem_map.1 h
  exact ⟨i, List.mem_range.1 hi, rfl⟩
theorem qes_key {L : List (Int × Int)} : ∀ x ∈ qes L, IsKey (.int .i64) x.key := by
  intro x hx
  obtain ⟨i, _, rfl⟩ := qes_mem hx
  exact rfl
theorem qes_snoc (L : List (Int × Int)) (y : Int × Int) : qes (L ++ [y]) = qes L ++ [qent L.length y] := by
  apply List.ext_getElem?
  intro i
  rcases Nat.lt_trichotomy i L.length with h | h | h
  · rw [qes_at _ _ (by simp; omega), List.getElem?_append_left (by rw [qes_len]; exact h), qes_at _ _ h]
    simp [List.getD, List.getElem?_append_left h]
  · subst h
    rw [qes_at _ _ (by simp), List.getElem?_append_right (by rw [qes_len]; exact Nat.le_refl _)]
    simp [qes_len, List.getD]
  · rw [List.getElem?_eq_none (by rw [qes_len]; simp; omega), List.getElem?_eq_none (by simp [qes_len]; omega)]
theorem qes_set (L : List (Int × Int)) (j : Nat) (y : Int × Int) (hj : j < L.length) (f : MapEntry → MapEntry) (hf : f (qent j (L.getD j (0, 0))) = qent j y) : (qes L).modify j f = qes (L.set j y) := by
  apply List.ext_getElem?
  intro i
  rw [List.getElem?_modify]
  rcases Nat.lt_or_ge i L.length with h | h
  · rw [qes_at _ _ h, qes_at _ _ (by simpa using h)]
    by_cases hij : j = i
    · subst hij
      have : (L.set j y).getD j (0, 0) = y := by simp [List.getD, hj]
      rw [this]
      simp only [if_pos rfl]
      exact congrArg some ((if_pos trivial).trans hf)
    · simp [hij, List.getD, List.getElem?_set_ne hij]
  · rw [List.getElem?_eq_none (by rw [qes_len]; omega), List.getElem?_eq_none (by rw [qes_len]; simpa using h)]
    simp
/-- Block b holds a queue; bm: its map's block; L: when each key is due, and its number. -/
structure QO (w : World) (b bm : Nat) (L : List (Int × Int)) : Prop where
  blk : ∃ n, w.heap[b]? = some (.cells #[.map (some bm), .int .i64 n] 233 (0, 0))
  map : w.heap[bm]? = some (.map (qes L).toArray L.length)
theorem QO.mod {S : Nat → Prop} {w w' : World} {b bm : Nat} {L : List (Int × Int)} (h : QO w b bm L) (hm : Mod S w w') (hb : ¬ S b) (hk : ¬ S bm) : QO w' b bm L :=
  ⟨let ⟨n, hn⟩ := h.blk; ⟨n, hm.heap hn hb⟩, hm.heap h.map hk⟩
theorem run_insQ {P : Program} {t kt et : TypeId} (ht : P.underlying t = some (.map kt et)) (hkt : P.underlying kt = some (.int .i64)) {w : World} {r : Nat} {L : List (Int × Int)} (y : Int × Int) (hb : w.heap[r]? = some (.map (qes L).toArray L.length)) :
    (Instr.mapUpdate t (.map (some r)) (.int .i64 L.length) (.agg #[.int .i64 y.1, .int .i64 y.2])).run P w = .ok () (setO w r (.map (qes (L ++ [y])).toArray (L.length + 1))) := by
  have hk : IsKey (.int .i64) (.int .i64 (L.length : Int)) := rfl
  have hf : Instr.findNow (.int .i64) (.int .i64 (L.length : Int)) (qes L).toArray.toList 0 = some none := by
    rcases findNow_spec hk (qes L).toArray.toList 0 qes_key with ⟨h, _⟩ | ⟨j, e, _, h2, h3⟩
    · exact h
    · obtain ⟨i, hi, rfl⟩ := qes_mem (List.mem_of_getElem? h2)
      simp [qent] at h3
      omega
  have hck : ∀ e, (Instr.checkKey e 10000 kt (.int .i64 (L.length : Int))).run P w = .ok () w := fun e => Go.MapKept.run_checkKey hkt hk e 9999
  unfold Instr.mapUpdate
  simp [run_underlying ht, Go.MapKept.run_getObj_map hb, Go.MapKept.run_setObj_map _ hb, hck, run_findKey hkt hf, go_sem, qes_snoc]
  rfl
theorem run_updQ {P : Program} {t kt et : TypeId} (ht : P.underlying t = some (.map kt et)) (hkt : P.underlying kt = some (.int .i64)) {w : World} {r : Nat} {L : List (Int × Int)} (k : Nat) (hkl : k < L.length) (y : Int × Int) (hb : w.heap[r]? = some (.map (qes L).toArray L.length)) :
    (Instr.mapUpdate t (.map (some r)) (.int .i64 k) (.agg #[.int .i64 y.1, .int .i64 y.2])).run P w = .ok () (setO w r (.map (qes (L.set k y)).toArray L.length)) := by
  have hk : IsKey (.int .i64) (.int .i64 (k : Int)) := rfl
  obtain ⟨v, hf⟩ : ∃ v, Instr.findNow (.int .i64) (.int .i64 (k : Int)) (qes L).toArray.toList 0 = some (some (k, v)) := by
    rcases findNow_spec hk (qes L).toArray.toList 0 qes_key with ⟨_, h⟩ | ⟨j, e, h1, h2, h3⟩
    · exact absurd rfl (h _ (List.mem_of_getElem? (qes_at L k hkl)))
    · rw [h1]
      have hj : j < L.length := by
        rcases Nat.lt_or_ge j L.length with h | h
        · exact h
        · rw [List.getElem?_eq_none (by simpa [qes_len] using h)] at h2; cases h2
      have h2' : (qes L)[j]? = some e := h2
      rw [qes_at L j hj] at h2'
      cases h2'
      simp [qent] at h3
      exact ⟨_, by rw [Nat.zero_add, show j = k by omega]⟩
  have hck : ∀ e, (Instr.checkKey e 10000 kt (.int .i64 (k : Int))).run P w = .ok () w := fun e => Go.MapKept.run_checkKey hkt hk e 9999
  have hge : (Option.map (fun x => x.key) (qes L)[k]?).getD (.int .i64 (k : Int)) = .int .i64 (k : Int) := by
    rw [qes_at L k hkl]; rfl
  have hsb : Instr.sameBits 10000 (.int .i64 (k : Int)) (.int .i64 (k : Int)) = true := by simp [Instr.sameBits]
  have hset := qes_set L k y hkl (fun e => { key := .int .i64 (k : Int), val := .agg #[.int .i64 y.1, .int .i64 y.2], born := e.born }) rfl
  unfold Instr.mapUpdate
  simp [run_underlying ht, Go.MapKept.run_getObj_map hb, Go.MapKept.run_setObj_map _ hb, hck, run_findKey hkt hf, go_sem, hge, Instr.keyThatStays, hsb, hset]
  rfl
/-- A key set. -/
def qput (L : List (Int × Int)) (k : Nat) (y : Int × Int) : List (Int × Int) := if k = L.length then L ++ [y] else L.set k y
theorem qnew_any (w : World) :
    Calls Tryz.prog 61 #[] w fun e w' => ∃ b bm, e = .returned (at0 b) ∧ QO w' b bm [] ∧ w.heap.size ≤ b ∧ w.heap.size ≤ bm ∧ b ≠ bm ∧ Mod NoB w w' := by
  have hmm := @run_makeMap Tryz.prog
  go_enter Tryz.func61, Tryz.ntmps61
  go_wp2
  go_ret
  have h1 := heap_alloc_new (w.alloc (.map #[] 0)) (.cells #[.map (some w.heap.size), .int .i64 0] 233)
  rw [World.size_alloc] at h1
  exact ⟨_, w.heap.size, rfl, ⟨⟨0, h1⟩, (heap_alloc_old (by simp) _).trans (heap_alloc_new _ _)⟩, by omega, Nat.le_refl _, by omega, ((Mod.refl _ _).alloc _).alloc _⟩
set_option maxRecDepth 100000 in
theorem qset_any (b bm : Nat) (L : List (Int × Int)) (k : Nat) (hk : k ≤ L.length) (x : Int) (w : World) (hq : QO w b bm L) (hne : b ≠ bm) :
    Calls Tryz.prog 65 #[at0 b, .int .i64 k, .int .i64 x] w fun e w' =>
      (∃ r, e = .returned r) ∧ (∃ s, QO w' b bm (qput L k (x, s))) ∧ Mod (fun j => j = b ∨ j = bm) w w' := by
  obtain ⟨⟨n, hb⟩, hm⟩ := hq
  have k0 := cell_of_block hb 0 rfl
  have k1 := cell_of_block hb 1 rfl
  have z1 := frozen_of_block hb 1
  replace hb := hide hb
  replace hm := hide hm
  go_enter Tryz.func65, Tryz.ntmps65
  go_wp2_with fail
  have hb2 : (w.setCell ⟨b, 1, none⟩ (.int .i64 (wrap64 (n + 1)))).heap[b]? = some (.cells #[.map (some bm), .int .i64 (wrap64 (n + 1))] 233 (0, 0)) := heap_setCell_eq hb.out _
  have hm2 : (w.setCell ⟨b, 1, none⟩ (.int .i64 (wrap64 (n + 1)))).heap[bm]? = _ := (heap_setCell_ne (Ne.symm hne) _).trans hm.out
  have hmw : Mod (· = b) w (w.setCell ⟨b, 1, none⟩ (.int .i64 (wrap64 (n + 1)))) := (Mod.refl _ _).set1 _ _
  generalize w.setCell ⟨b, 1, none⟩ (.int .i64 (wrap64 (n + 1))) = w2 at *
  clear k0 k1 z1
  have y0 := cell_of_block hb2 0 rfl
  have y1 := cell_of_block hb2 1 rfl
  have hlb := lt_of_block hb2
  have hlm := lt_of_block hm2
  have hup : ∃ L', qput L k (x, wrap64 (n + 1)) = L' ∧
      (Instr.mapUpdate 231 (.map (some bm)) (.int .i64 k) (.agg #[.int .i64 x, .int .i64 (wrap64 (n + 1))])).run Tryz.prog w2.drew = .ok () (setO w2.drew bm (.map (qes L').toArray L'.length)) := by
    by_cases hkl : k = L.length
    · subst hkl
      refine ⟨_, rfl, ?_⟩
      unfold qput
      rw [if_pos rfl]
      have := run_insQ (P := Tryz.prog) Tryz.underlying231 Tryz.underlying3 (w := w2.drew) (x, wrap64 (n + 1)) hm2
      simpa using this
    · refine ⟨_, rfl, ?_⟩
      unfold qput
      rw [if_neg hkl]
      have := run_updQ (P := Tryz.prog) Tryz.underlying231 Tryz.underlying3 (w := w2.drew) k (by omega) (x, wrap64 (n + 1)) hm2
      simpa using this
  obtain ⟨L', hL', hup⟩ := hup
  replace hm2 := hide hm2
  replace hb2 := hide hb2
  replace hmw := hide hmw
  replace hL' := hide hL'
  go_still_tail 11, (by kernel_rfl)
  change wpList _ _ _ _ _ w2.drew
  have hbf : (setO w2.drew bm (.map (qes L').toArray L'.length)).heap[b]? = _ := (setO_mod (w := w2.drew) (r := bm) (.map (qes L').toArray L'.length)).heap hb2.out hne
  have hmf : (setO w2.drew bm (.map (qes L').toArray L'.length)).heap[bm]? = _ := setO_same (w := w2.drew) (.map (qes L').toArray L'.length) hlm
  have hmod : Mod (fun j => j = b ∨ j = bm) w (setO w2.drew bm (.map (qes L').toArray L'.length)) := (hmw.out.drew.mono (fun _ _ h => Or.inl h)).trans ((setO_mod (w := w2.drew) _).mono (fun _ _ h => Or.inr h))
  obtain ⟨wf, hwf⟩ : ∃ wf, setO w2.drew bm (.map (qes L').toArray L'.length) = wf := ⟨_, rfl⟩
  rw [hwf] at hbf hmf hmod hup
  clear hwf
  replace hbf := hide hbf
  replace hmf := hide hmf
  replace hmod := hide hmod
  go_wp2_with fail
  go_end0
  exact ⟨⟨_, rfl⟩, ⟨wrap64 (n + 1), by rw [hL'.out]; exact ⟨⟨_, hbf.out⟩, hmf.out⟩⟩, hmod.out⟩
set_option maxRecDepth 100000 in
theorem qlen_any (b bm : Nat) (L : List (Int × Int)) (w : World) (hq : QO w b bm L) :
    Calls Tryz.prog 121 #[at0 b] w fun e w' => e = .returned (.int .i64 L.length) ∧ w = w' := by
  obtain ⟨⟨n, hb⟩, hm⟩ := hq
  have k0 := cell_of_block hb 0 rfl
  have hlen : (qes L).toArray.size = L.length := by simp [qes_len]
  replace hb := hide hb
  go_enter Tryz.func121, Tryz.ntmps121
  have hln := run_len_map (P := Tryz.prog) (w := w) 231 3 bm (qes L).toArray L.length (by kernel_rfl) hm
  rw [hlen] at hln
  go_wp2_with fail
  go_ret
  exact ⟨rfl, rfl⟩
end Go.Proofs.YtjlilmonpklghaaGreatDoor

namespace Go.Proofs.YtjlilmonpklghaaGreatDoor
set_option linter.unusedSimpArgs false
open Go.RowKit Go.MapKept

def qat (L : List (Int × Int)) (i : Nat) : Int := (L.getD i (0, 0)).1
def IsMinQ (v : Int) (L : List (Int × Int)) : Prop := (∃ i, i < L.length ∧ v = qat L i) ∧ ∀ i, i < L.length → v ≤ qat L i
/-- What the loop knows. -/
def NextAt (L : List (Int × Int)) (seen : Array Nat) (f : Int) (sm : Bool) : Prop :=
  (sm = false → f = 0 ∧ ∀ i, i < L.length → seen.contains i = false) ∧ (sm = true → (∃ i, i < L.length ∧ f = qat L i) ∧ ∀ i, i < L.length → seen.contains i = true → f ≤ qat L i)
set_option maxRecDepth 100000 in
set_option maxHeartbeats 4000000 in
theorem qnext_any (b bm : Nat) (L : List (Int × Int)) (hL : 0 < L.length) (hL2 : L.length ≤ 1000) (w : World) (hq : QO w b bm L) :
    Calls Tryz.prog 70 #[at0 b] w fun e w' => (∃ v, e = .returned (.tuple #[.int .i64 v, .bool true]) ∧ IsMinQ v L) ∧ Mod NoB w w' := by
  have hln := hide (qlen_any b bm L w hq)
  obtain ⟨⟨n, hb⟩, hm⟩ := hq
  have k0 := cell_of_block hb 0 rfl
  have hold : ∀ x ∈ (qes L).toArray.toList, x.born < L.length := by
    intro x hx
    obtain ⟨i, hi, rfl⟩ := qes_mem hx
    exact hi
  have hnd : ((qes L).toArray.toList.map (·.born)).Nodup := by
    have : (qes L).toArray.toList.map (·.born) = List.range L.length := by
      simp only [qes, List.map_map]
      have : ((fun x : MapEntry => x.born) ∘ fun i => qent i (L.getD i (0, 0))) = id := rfl
      rw [this, List.map_id]
    rw [this]
    exact List.nodup_range
  have hl0 : ((L.length : Int) == 0) = false := beq_eq_false_iff_ne.mpr (by omega)
  replace hb := hide hb
  replace hm := hide hm
  replace hold := hide hold
  replace hnd := hide hnd
  have hlb := lt_of_block hm.out
  go_enter Tryz.func70, Tryz.ntmps70
  go_wp2_with fail
  refine hln.out.mono ?_
  rintro e w' ⟨rfl, rfl⟩
  go_wp2_with (at_range; refine wpList_range_raw rfl _ 231 rfl 3 250 Tryz.underlying231 bm (qes L).toArray L.length rfl hm.out hold.out hnd.out ?_; intro w5 hit5 hm5 hsz5)
  go_frame
  obtain ⟨rit, hrit⟩ : ∃ rit, w.heap.size = rit := ⟨_, rfl⟩
  rw [hrit] at hit5 ⊢
  have hbr : bm ≠ rit := by omega
  replace hm5 := hide hm5
  replace hit5 := hide hit5
  clear k0 hsz5
  go_loopw [4, 5] (fun vf vs wr => ∃ (seen : Array Nat) (f : Int) (sm : Bool), vf = .int .i64 f ∧ vs = .bool sm ∧ ItAt wr rit bm (qes L).toArray L.length seen ∧ Mod (· = rit) w5 wr ∧ NextAt L seen f sm) (fun _ _ wr => itLeft wr bm rit)
  case atStart => exact ⟨#[], 0, false, rfl, rfl, hit5.out, Mod.refl _ _, fun _ => ⟨rfl, fun i hi => by simp⟩, fun h => by cases h⟩
  case round =>
    obtain ⟨seen, f, sm, rfl, rfl, hit, hmr, hna⟩ := hrel
    replace hna := hide hna
    replace hmr := hide hmr
    go_wp2_with (at_next; refine wpList_next_raw rfl _ rfl rit bm (qes L).toArray L.length seen rfl hit ?_ ?_)
    · intro hdone
      have hseen : ∀ i, i < L.length → seen.contains i = true := fun i hi => by
        have := hdone (qent i (L.getD i (0, 0))) (List.mem_of_getElem? (qes_at L i hi))
        simpa [Array.contains_iff_mem] using (show i ∈ seen from this)
      have hsm : sm = true := by
        cases sm with
        | true => rfl
        | false => have := (hna.out.1 rfl).2 0 hL; rw [hseen 0 hL] at this; cases this
      subst hsm
      have hmin : IsMinQ f L := ⟨(hna.out.2 rfl).1, fun i hi => (hna.out.2 rfl).2 i hi (hseen i hi)⟩
      have hfin : Mod NoB w wr := hm5.out.into hmr.out (fun b h => Or.inr (by omega))
      replace hmin := hide hmin
      replace hfin := hide hfin
      clear hdone hseen
      go_wp2_with fail
      go_ret2
      exact ⟨⟨f, rfl, hmin.out⟩, hfin.out⟩
    · intro e w6 hem hns hit6 hm6 hsz6 hlt6 hen
      obtain ⟨i, hi, rfl⟩ := qes_mem (by simpa using hem)
      have hkey : (qent i (L.getD i (0, 0))).key = .int .i64 (i : Int) := rfl
      have hval : (qent i (L.getD i (0, 0))).val = .agg #[.int .i64 (qat L i), .int .i64 (L.getD i (0, 0)).2] := rfl
      have hborn : (qent i (L.getD i (0, 0))).born = i := rfl
      rw [hkey, hval] at hen
      rw [hborn] at hit6 hns
      rw [hkey, hval]
      generalize (L.getD i (0, 0)).2 = s2 at *
      have hmw : Mod (· = rit) w5 (w6.alloc (.cells #[.int .i64 (qat L i), .int .i64 s2] 250)) := (hmr.out.trans hm6).alloc _
      have hitw : ItAt (w6.alloc (.cells #[.int .i64 (qat L i), .int .i64 s2] 250)) rit bm (qes L).toArray L.length (seen.push i) := hit6.keep ((Mod.refl NoB w6).alloc _) id id
      have hlw : itLeft (w6.alloc (.cells #[.int .i64 (qat L i), .int .i64 s2] 250)) bm rit < itLeft wr bm rit := by rw [hitw.left]; rw [hit6.left] at hlt6; exact hlt6
      have hnew : ∀ f', (f' = qat L i ∧ (sm = true → qat L i < f)) ∨ (f' = f ∧ sm = true ∧ f ≤ qat L i) → NextAt L (seen.push i) f' true := by
        intro f' hf'
        refine ⟨(fun h => by cases h), fun _ => ⟨?_, fun j hj hc => ?_⟩⟩
        · rcases hf' with ⟨h, _⟩ | ⟨h, h2, _⟩
          · exact ⟨i, hi, h⟩
          · rw [h]; exact (hna.out.2 h2).1
        · have hc2 : seen.contains j = true ∨ j = i := by
            simpa [Array.contains_iff_mem] using hc
          rcases hf' with ⟨h, h2⟩ | ⟨h, h2, h3⟩
          · rcases hc2 with h4 | h4
            · cases hsm : sm with
              | false => have := (hna.out.1 hsm).2 j hj; rw [h4] at this; cases this
              | true => have := (hna.out.2 hsm).2 j hj h4; have := h2 hsm; omega
            · subst h4; omega
          · rcases hc2 with h4 | h4
            · have := (hna.out.2 h2).2 j hj h4; omega
            · subst h4; omega
      replace hnew := hide hnew
      replace hit6 := hide hit6
      replace hm6 := hide hm6
      replace hmw := hide hmw
      replace hitw := hide hitw
      replace hlw := hide hlw
      clear hem hns hkey hval hborn hlt6 hsz6 hit
      cases sm with
      | false =>
        go_wp2_with fail
        go_roundw
        case rel => exact ⟨seen.push i, qat L i, true, rfl, rfl, hitw.out, hmw.out, hnew.out _ (Or.inl ⟨rfl, fun h => by cases h⟩)⟩
        case measure => exact hlw.out
      | true =>
        by_cases hlt : qat L i < f
        · go_wp2_with fail
          go_roundw
          case rel => exact ⟨seen.push i, qat L i, true, rfl, rfl, hitw.out, hmw.out, hnew.out _ (Or.inl ⟨rfl, fun _ => hlt⟩)⟩
          case measure => exact hlw.out
        · go_wp2_with fail
          go_roundw
          case rel => exact ⟨seen.push i, f, true, rfl, rfl, hitw.out, hmw.out, hnew.out _ (Or.inr ⟨rfl, by trivial, by omega⟩)⟩
          case measure => exact hlw.out
end Go.Proofs.YtjlilmonpklghaaGreatDoor

namespace Go.Proofs.YtjlilmonpklghaaGreatDoor
open Go.RowKit

theorem bk_within_any (n : Int) (hn : I64 n) (w : World) :
    Calls Tryz.prog 168 #[.int .i64 n] w fun e w' => e = .returned (.bool (decide (4 ≤ n) && decide (n ≤ 1024))) ∧ w = w' := by
  obtain ⟨h1, h2⟩ := hn
  go_enter Tryz.func168, Tryz.ntmps168
  go_wp2
  all_goals
    go_ret
    refine ⟨?_, rfl⟩
    congr 2
    simp
    try omega

theorem new_ok (l m : Int) (hl : I64 l) (hm : I64 m) (h1 : (decide (4 ≤ l) && decide (l ≤ 1024)) = true) (h2 : (decide (4 ≤ m) && decide (m ≤ 1024)) = true) (h : l ≤ m) (w : World) :
    Calls Tryz.prog 113 #[.int .i64 l, .int .i64 m] w (NewPost l m w) := by
  go_enter Tryz.func113, Tryz.ntmps113
  go_wp2_with (go_at_call 168; refine (bk_within_any _ (by assumption) _).mono ?_; rintro e w' ⟨rfl, rfl⟩)
  go_ret2
  exact ⟨w.heap.size, rfl, Nat.le_refl _, heap_alloc_new w _, (Mod.refl _ _).alloc _⟩

/-! ### the methods of a nil one -/
/-! ### the methods of one that is there -/
theorem goodf_any (n t l : Int) (b bb : Nat) (w : World) (hc : w.cell? ⟨bb, 0, none⟩ = some (at0 b))
    (h1 : w.cell? ⟨b, 0, none⟩ = some (.int .i64 l)) :
    Calls Tryz.prog 245 #[.int .i64 n, .int .i64 t, at0 bb] w fun e w' =>
      e = .returned (.tuple #[.int .i64 l, .int .i64 0]) ∧ w = w' := by
  go_enter Tryz.func245, Tryz.ntmps245
  go_wp2
  go_ret2
  exact ⟨rfl, rfl⟩

end Go.Proofs.YtjlilmonpklghaaGreatDoor

