/- A daemon that is made: one server more; its blocks. A config's text is read as the config, whatever order its lines stand in: plain Lean. conf.Parse, walked. -/
import Derived.Test.YtpjfiplejhbdfaaGreatDoorPUay
import Derived.Test.YtpjfiplejhbdfaaGreatDoorPUao
import Derived.Test.YtpjfiplejhbdfaaGreatDoorPUaw
namespace Go.Proofs.YtpjfiplejhbdfaaGreatDoor
set_option linter.unusedSimpArgs false
open Go.RowKit

def newP (P : DPl) (pv sv : Value) (b bk sb rb : Nat) : DPl := { P with pv := pv, pbs := P.pbs ++ [(b, bk)], sv := sv, ss := P.ss ++ [⟨sb, rb, .slice none 0 0, []⟩] }
def newD (d : DaemonS) (pe : PeerS) : DaemonS := { d with ps := d.ps ++ [pe], ss := d.ss ++ [[]] }
/-- What a round of New may turn. -/
def growS (P : DPl) (k : Nat) : Prop := k = P.b ∨ P.pv.ownBlock = some k ∨ P.sv.ownBlock = some k ∨ k = P.bq ∨ k = P.bqm
theorem DO.grow {w w' : World} {P : DPl} {d : DaemonS} (h : DO w P d) {pv sv : Value} {b bk sb rb : Nat} {pe : PeerS} {L : List (Int × Int)} (hm : Mod (growS P) w w') (hlo : ∀ k, growS P k → P.lo ≤ k)
    (hblk : w'.heap[P.b]? = some (.cells #[.slice P.sp d.c.srv.length P.sc, .int .i64 d.c.q, .int .i64 d.c.l, .int .i64 d.c.m, .int .i64 d.c.d, .int .i64 d.c.s, at0 P.bk, pv, sv, at0 P.bq, at0 P.bc, .int .u64 (d.draw : Int), .int .i64 d.h, .int .i64 d.theta, P.vv, .int .i64 d.chosen] 100 (0, 0)))
    (hpr : w'.ownsRow 0 101 1 pv (P.pbs.length + 1) ((P.pbs.map fun x => at0 x.1) ++ [at0 b]))
    (hsr : w'.ownsRow 0 104 1 sv (P.ss.length + 1) ((P.ss.map fun s => at0 s.b) ++ [at0 sb]))
    (hpo : PeerO w' b bk pe) (hst : StoreO w' sb rb (.slice none 0 0) []) (hb : w.heap.size ≤ b) (hbk : w.heap.size ≤ bk) (hsb : w.heap.size ≤ sb) (hrb : w.heap.size ≤ rb)
    (hq : QO w' P.bq P.bqm L) (hL : L.length = d.ps.length + 1) : DO w' (newP P pv sv b bk sb rb) (newD d pe) := by
  obtain ⟨L0, hq0, _⟩ := h.que
  obtain ⟨nq, hqb⟩ := hq0.blk
  have hT : Only [tDmn, tPP, tPS, tQue, none] P.lo w (growS P) := by
    intro k hk
    refine ⟨hlo k hk, ?_⟩
    rcases hk with rfl | hk | hk | rfl | rfl
    · exact fun o ho => by rw [h.blk] at ho; cases ho; simp [tyOf]
    · obtain ⟨cur, hcur⟩ := own_block h.prow hk
      exact fun o ho => by rw [hcur] at ho; cases ho; simp [tyOf]
    · obtain ⟨cur, hcur⟩ := own_block h.srow hk
      exact fun o ho => by rw [hcur] at ho; cases ho; simp [tyOf]
    · exact fun o ho => by rw [hqb] at ho; cases ho; simp [tyOf]
    · exact fun o ho => by rw [hq0.map] at ho; cases ho; simp [tyOf]
  have r := h.rest hm hT
  have hlt := h.lt
  have hlts := h.lts
  refine ⟨hblk, r.srv, h.srvl, r.clk (by decide), by simpa [newP] using hpr, by simp [newP, newD, h.pn], ?_, ?_, ?_, by simpa [newP] using hsr, by simp [newP, newD, h.sxs], ?_, ?_, ?_, ⟨L, hq, by simpa [newD] using hL⟩, r.cnt (by decide), r.vrow (by decide), h.los, r.lts⟩
  · intro i x p hx hp
    have hx : (P.pbs ++ [(b, bk)])[i]? = some x := hx
    have hp : (d.ps ++ [pe])[i]? = some p := hp
    have hpn := h.pn
    rcases Nat.lt_or_ge i P.pbs.length with hi | hi
    · rw [List.getElem?_append_left hi] at hx
      rw [List.getElem?_append_left (by omega)] at hp
      exact r.peer (by decide) (by decide) i x p hx hp
    · have hi2 : i = P.pbs.length := by
        have := (List.getElem?_eq_some_iff.1 hx).1
        simp at this
        omega
      subst hi2
      simp at hx
      rw [hpn] at hp
      simp at hp
      subst hx
      subst hp
      exact hpo
  · show (P.pbs ++ [(b, bk)]).Pairwise _
    rw [List.pairwise_append]
    refine ⟨h.pinj, by simp, fun x hx y hy => ?_⟩
    obtain rfl : y = (b, bk) := List.mem_singleton.1 hy
    have h1 := hlt _ (.peer hx (Or.inl rfl))
    have h2 := hlt _ (.peer hx (Or.inr rfl))
    exact ⟨by show x.1 ≠ b; omega, by show x.2 ≠ bk; omega⟩
  · intro x hx
    rcases List.mem_append.1 (show x ∈ P.pbs ++ [(b, bk)] from hx) with hx | hx
    · exact h.plo x hx
    · obtain rfl : x = (b, bk) := List.mem_singleton.1 hx
      exact ⟨by show P.lo ≤ b; omega, by show P.lo ≤ bk; omega⟩
  · intro s hs
    rcases List.mem_append.1 (show s ∈ P.ss ++ [_] from hs) with hs | hs
    · exact r.store (by decide) (by decide) (by decide) s hs
    · obtain rfl := List.mem_singleton.1 hs
      exact hst
  · show (P.ss ++ [_]).Pairwise _
    rw [List.pairwise_append]
    refine ⟨h.sinj, by simp, fun x hx y hy => ?_⟩
    obtain rfl := List.mem_singleton.1 hy
    have h1 := hlt _ (.store hx (Or.inl rfl))
    have h2 := hlt _ (.store hx (Or.inr (Or.inl rfl)))
    exact ⟨by show x.b ≠ sb; omega, by show x.rb ≠ rb; omega, fun g _ hg => by cases hg⟩
  · intro s hs
    rcases List.mem_append.1 (show s ∈ P.ss ++ [_] from hs) with hs | hs
    · exact h.slo s hs
    · obtain rfl := List.mem_singleton.1 hs
      exact ⟨by show P.lo ≤ sb; omega, by show P.lo ≤ rb; omega, fun g hg => by cases hg⟩
/-- Its blocks are old ones, or new. -/
theorem newP_fp {P : DPl} {pv sv : Value} {b bk sb rb n : Nat} (hb : n ≤ b) (hbk : n ≤ bk) (hsb : n ≤ sb) (hrb : n ≤ rb) (hpv : ∀ g, pv.ownBlock = some g → P.pv.ownBlock = some g ∨ n ≤ g) (hsv : ∀ g, sv.ownBlock = some g → P.sv.ownBlock = some g ∨ n ≤ g) :
    ∀ k, fpD (newP P pv sv b bk sb rb) k → fpD P k ∨ n ≤ k := by
  intro k hk
  rcases hk with h | h | h | h | h | h | h | h | h | h | h
  · exact Or.inl (h ▸ .b)
  · exact Or.inl (h ▸ .bk)
  · obtain ⟨x, hx, hk⟩ := h
    rcases List.mem_append.1 (show x ∈ P.pbs ++ [(b, bk)] from hx) with hx | hx
    · exact Or.inl (.peer hx hk)
    · obtain rfl := List.mem_singleton.1 hx
      rcases hk with rfl | rfl
      · exact Or.inr hb
      · exact Or.inr hbk
  · obtain ⟨x, hx, hk⟩ := h
    rcases List.mem_append.1 (show x ∈ P.ss ++ [_] from hx) with hx | hx
    · exact Or.inl (.store hx hk)
    · obtain rfl := List.mem_singleton.1 hx
      rcases hk with rfl | rfl | hk
      · exact Or.inr hsb
      · exact Or.inr hrb
      · cases hk
  · exact Or.inl (h ▸ .bq)
  · exact Or.inl (h ▸ .bqm)
  · exact Or.inl (h ▸ .bc)
  · exact (hpv k h).elim (fun h => Or.inl (.pv h)) Or.inr
  · exact (hsv k h).elim (fun h => Or.inl (.sv h)) Or.inr
  · exact Or.inl (.vv h)
  · obtain ⟨off, h⟩ := h
    exact Or.inl (.sp h)
end Go.Proofs.YtpjfiplejhbdfaaGreatDoor

namespace Go.Proofs.YtpjfiplejhbdfaaGreatDoor
open Go.RowKit

/-- A line of a config: a word's number, its numbers. -/
abbrev Item := Nat × List Int
def wordsI (it : Item) : List (List UInt8) := keyW it.1 :: it.2.map textOf
structure ItemOk (it : Item) : Prop where
  k5 : it.1 < 5
  many : (it.2.length : Int) = manyW it.1
  num : ∀ x ∈ it.2, 0 ≤ x ∧ x ≤ 1000000000

theorem nums_text : ∀ (xs : List Int), (∀ x ∈ xs, 0 ≤ x ∧ x ≤ 1000000000) → numsE (xs.map textOf) = 0 ∧ (xs.map textOf).map (fun s => (numR s).1) = xs := by
  intro xs
  induction xs with
  | nil => intro _; exact ⟨rfl, rfl⟩
  | cons x xs ih =>
    intro h
    obtain ⟨h0, h1⟩ := h x (by simp)
    obtain ⟨a, b⟩ := ih (fun y hy => h y (by simp [hy]))
    have hn := numR_text h0 h1
    refine ⟨?_, ?_⟩
    · rw [List.map_cons, numsE, if_pos (by rw [hn]), a]
    · rw [List.map_cons, List.map_cons, b, hn]
/-- What an item does. -/
def applyI (it : Item) (st : St) : Int × St :=
  if st.2 it.1 = true ∧ it.1 ≠ 0 then (12, st) else takeR it.1 it.2 (st.1, upd st.2 it.1 true)
theorem lineR_item {it : Item} (h : ItemOk it) (st : St) : lineR (wordsI it) st = applyI it st := by
  obtain ⟨a, b⟩ := nums_text it.2 h.num
  have hk : keyOf ((wordsI it).getD 0 []) = some it.1 := by simpa [wordsI] using keyOf_keyW h.k5
  have hd : (wordsI it).drop 1 = it.2.map textOf := rfl
  have hl : ((wordsI it).length : Int) = 1 + manyW it.1 := by rw [← h.many]; simp [wordsI]; omega
  unfold lineR
  rw [hk]
  show lineK it.1 (wordsI it) st = _
  unfold lineK
  rw [if_neg (by rw [hl]; simp), hd, if_neg (by rw [a]; simp), b]
  rfl

/-- The state behind items that are all taken. -/
inductive Runs : List Item → St → St → Prop
  | nil (st : St) : Runs [] st st
  | cons {it : Item} {l : List Item} {st st' st'' : St} (hi : ItemOk it) (h : applyI it st = (0, st')) (t : Runs l st' st'') : Runs (it :: l) st st''
theorem Runs.ok {l : List Item} {a b : St} (h : Runs l a b) : ∀ it ∈ l, ItemOk it := by
  induction h with
  | nil st => intro it h; cases h
  | cons hi h t ih =>
    intro it hit
    rcases List.mem_cons.1 hit with rfl | h
    · exact hi
    · exact ih it h
/-- Items' lines behind n lines. -/
def numI : Nat → List Item → List (Nat × List (List UInt8))
  | _, [] => []
  | n, it :: r => (n + 1, wordsI it) :: numI (n + 1) r
theorem Runs.lines {l : List Item} {st st' : St} (h : Runs l st st') : ∀ n, linesR (numI n l) st = (0, 0, st') := by
  induction h with
  | nil st => intro n; rfl
  | cons hi h t ih =>
    intro n
    have := lineR_item hi
    rw [numI, linesR_ok (by rw [this, h]), this, h]
    exact ih _
theorem Runs.then {l : List Item} {st st' : St} (h : Runs l st st') (n : Nat) (R : List (Nat × List (List UInt8))) : linesR (numI n l ++ R) st = linesR R st' := by
  rw [linesR_app _ _ _ (by rw [h.lines]), h.lines]
/-- Numbers that may be servers' together. -/
def SrvOk (xs : List Int) : Prop := xs.Nodup ∧ xs.length ≤ 16 ∧ ∀ x ∈ xs, 1 ≤ x ∧ x ≤ 65535
theorem inI_mem {xs : List Int} {x : Int} : inI xs x = true ↔ x ∈ xs := by unfold inI; rw [List.contains_eq_mem]; simp
theorem nodup_pre {xs : List Int} (h : ∀ k, k < xs.length → inI (xs.take k) (xs.getD k 0) = false) : xs.Nodup := by
  rw [List.nodup_iff_pairwise_ne, List.pairwise_iff_getElem]
  intro i j hi hj hij e
  have h1 := h j hj
  have h2 : inI (xs.take j) (xs.getD j 0) = true := by
    rw [inI_mem, List.mem_iff_getElem]
    refine ⟨i, by simp; omega, ?_⟩
    rw [List.getElem_take, e]
    simp [List.getD, hj]
  rw [h1] at h2
  cases h2
theorem fine_srv {a : Cfg} (h : Fine a.srv a.q a.l a.m a.d a.s) : SrvOk a.srv := by
  have hp := srvErr_pre h.srv
  refine ⟨nodup_pre fun k hk => (hp k hk).2.2, h.few, fun x hx => ?_⟩
  obtain ⟨k, hk, rfl⟩ := List.getElem_of_mem hx
  have := hp k hk
  have e : a.srv.getD k 0 = a.srv[k] := by simp [List.getD, hk]
  rw [e] at this
  exact ⟨this.1, this.2.1⟩
/-- What a text is parsed as may be. -/
theorem parse_cases (l : List UInt8) : ((parseR l).2.2 = 0 ∧ (parseR l).2.1 = 0 ∧ checkC (parseR l).1 = 0) ∨ ((parseR l).2.2 ≠ 0 ∧ (parseR l).1 = cfg0 ∧ 0 ≤ (parseR l).2.1) := by
  have hn : ∀ (L : List (Nat × List (List UInt8))) (st : St), 0 ≤ (linesR L st).1 := by
    intro L
    induction L with
    | nil => intro st; exact Int.le_refl _
    | cons x L ih =>
      intro st
      obtain ⟨n, ws⟩ := x
      rw [linesR]
      split
      · exact ih _
      · exact Int.natCast_nonneg _
  unfold parseR
  split
  · exact Or.inr ⟨by simp, rfl, by simp⟩
  · split
    · exact Or.inr ⟨by simp, rfl, Int.natCast_nonneg _⟩
    · rename_i hb
      have h0 := hn (linesTo l (partsN 10 l)) st0
      generalize linesR (linesTo l (partsN 10 l)) st0 = x at h0
      unfold endR
      split
      · rename_i h; exact Or.inr ⟨h, rfl, h0⟩
      · split
        · exact Or.inr ⟨by simp, rfl, by simp⟩
        · split
          · rename_i h; exact Or.inr ⟨h, rfl, by simp⟩
          · rename_i h; exact Or.inl ⟨rfl, rfl, by simpa using h⟩
end Go.Proofs.YtpjfiplejhbdfaaGreatDoor

namespace Go.Proofs.YtpjfiplejhbdfaaGreatDoor
open Go.RowKit

theorem ents_born (v : Nat → Value) (order : List Nat) : (ents v order).toArray.toList.map (·.born) = List.range order.length := by
  unfold ents
  simp only [List.map_map]
  rw [List.range_eq_range']
  have := List.zipIdx_map_snd 0 order
  rw [← this]
  rfl
theorem ents_old (v : Nat → Value) (order : List Nat) : ∀ x ∈ (ents v order).toArray.toList, x.born < order.length := by
  intro x hx
  have : x.born ∈ List.range order.length := by rw [← ents_born v order]; exact List.mem_map.2 ⟨x, hx, rfl⟩
  simpa using this
theorem ents_nodup (v : Nat → Value) (order : List Nat) : ((ents v order).toArray.toList.map (·.born)).Nodup := by
  rw [ents_born]; exact List.nodup_range

theorem StrsAt.cap {base : Nat} {W : World} {u : Option Addr} {n c : Nat} {ws : List (List UInt8)} (h : StrsAt base W (.slice u n c) ws) : c ≤ 9223372036854775807 := by
  rcases h.2 with ⟨h1, _⟩ | ⟨g, cap, cur, hv, _, _, _, hm, _⟩
  · simp at h1; omega
  · simp at hv; unfold maxLen at hm; omega

set_option maxRecDepth 100000 in
set_option maxHeartbeats 16000000 in
theorem parse_lines (l : List UInt8) (hl : l.length ≤ 65536) (w : World) (hL : LaidN w) :
    Calls Tryz.prog 35 #[.string (bs l)] w fun e w' => ParseOut (parseR l) w e w' ∧ Mod NoB w w' := by
  have hlw := fun w' (h : Mod NoB w w') => lines_walk l hl w' (tabs_of (hL.mod h))
  replace hlw := hide hlw
  obtain ⟨r, hr⟩ : ∃ r, parseR l = r := ⟨_, rfl⟩
  rw [hr]
  replace hr := hide hr
  have hmw : Hid (Mod NoB w (w.alloc (.cells #[.slice none 0 0, .int .i64 0, .int .i64 0, .int .i64 0, .int .i64 0, .int .i64 0] 31))) := hide ((Mod.refl _ _).alloc _)
  go_enter Tryz.func35, Tryz.ntmps35
  go_wp2_with fail
  refine (hlw.out _ hmw.out).mono ?_
  rintro e w1 ⟨(⟨j, h1, h2, h3, rfl⟩ | ⟨hok, v, rfl, hv⟩), hm⟩
  · have hm1 : Hid (Mod NoB w w1) := hide (((Mod.refl _ _).alloc _).trans hm)
    have hb : w1.heap[w.heap.size]? = some (.cells #[.slice none 0 0, .int .i64 0, .int .i64 0, .int .i64 0, .int .i64 0, .int .i64 0] 31 (0, 0)) := hm.heap (heap_alloc_new _ _) id
    have hr2 : Hid (r = (cfg0, ((j + 1 : Nat) : Int), 6)) := hide (hr.out.symm.trans (parseR_bad (by omega) (badAt_some h1 h2 h3)))
    clear hm h1 h2 h3
    obtain ⟨b0, b1, b2, b3, b4, b5, f0, f1, f2, f3, f4, f5⟩ := six_of hb
    obtain ⟨W6, hW6, hb6, hm6⟩ := set6 hb (.slice none 0 0) (.int .i64 0) (.int .i64 0) (.int .i64 0) (.int .i64 0) (.int .i64 0)
    replace hW6 := hide hW6
    replace hb6 := hide hb6
    replace hb := hide hb
    have hmf : Hid (Mod NoB w W6) := hide (hm1.out.into hm6 (fun b e => Or.inr (by omega)))
    clear hm6
    go_wp2
    rw [hW6.out]
    clear b0 b1 b2 b3 b4 b5 f0 f1 f2 f3 f4 f5
    obtain ⟨b0, b1, b2, b3, b4, b5, -⟩ := six_of hb6.out
    rw [hr2.out]
    refine bodyPost_ret (v := .tuple #[.agg #[.slice none 0 0, .int .i64 0, .int .i64 0, .int .i64 0, .int .i64 0, .int .i64 0], .int .i64 ((j + 1 : Nat) : Int), .int .i64 6]) (by simp [results, Tryz.results35, go_sem, b0, b1, b2, b3, b4, b5]) rfl ⟨.err, hmf.out⟩
  · have hm1 : Hid (Mod NoB w w1) := hide (((Mod.refl _ _).alloc _).trans hm)
    have hb : Hid (w1.heap[w.heap.size]? = some (.cells #[.slice none 0 0, .int .i64 0, .int .i64 0, .int .i64 0, .int .i64 0, .int .i64 0] 31 (0, 0))) := hide (hm.heap (heap_alloc_new _ _) id)
    have hr2 := hide (hr.out.symm.trans (parseR_lines (by omega) (badAt_none hok)))
    obtain ⟨L, hLn⟩ : ∃ L, linesTo l (partsN 10 l) = L := ⟨_, rfl⟩
    have hLe := hide (linesTo_each l (partsN 10 l))
    have hLlen := linesTo_len l (partsN 10 l)
    rw [hLn] at hv hr2 hLe hLlen
    have hpN : partsN 10 l ≤ 65537 := by have := List.count_le_length (a := (10 : UInt8)) (l := l); simp only [partsN]; omega
    have hLl : L.length ≤ 65537 := by omega
    clear hLlen hpN hLn hm hok
    obtain ⟨p, cap, rfl, hcells⟩ := hv.open
    replace hcells := hide hcells
    clear hv
    go_wp2_with fail
    refine (words_any w1.heap.size _).mono ?_
    rintro e w3 ⟨bM, b, order, rfl, hbM, hmap, hnd, hall, hbox, hword, hap, hm3⟩
    obtain ⟨B0, hB0⟩ : ∃ B0, (w1.alloc (.cells #[.slice none 0 0, .int .i64 0, .int .i64 0, .int .i64 0, .int .i64 0, .int .i64 0] 31)).heap.size = B0 := ⟨_, rfl⟩
    have hB01 : B0 = w1.heap.size + 1 := by rw [← hB0]; simp
    rw [hB0] at hbM hbox hword
    have hcf : w3.heap[w1.heap.size]? = some (.cells #[.slice none 0 0, .int .i64 0, .int .i64 0, .int .i64 0, .int .i64 0, .int .i64 0] 31 (0, 0)) := hm3.heap (heap_alloc_new _ _) id
    have hm13 : Mod NoB w1 w3 := ((Mod.refl _ _).alloc _).trans hm3
    have hCM : Hid (CM w3.heap.size w1.heap.size B0 bM b order st0 w3) := hide ⟨hmap, hnd, hall, hbox, fun k k5 => (hword k k5).2.below, hap, ⟨_, hcf, World.ownsRow_nil _ _ _ _⟩, ⟨lt_of_block hcf, lt_of_block hbox, lt_of_block hmap⟩, ⟨by omega, hbM, fun k k5 => by have := (hword k k5).1; omega⟩, Nat.le_refl _⟩
    have hbM2 := hide hbM
    replace hm13 := hide hm13
    replace hB01 := hide hB01
    clear hmap hnd hbox hword hap hm3 hcf hbM hB0
    replace hall := hide hall
    go_wp2_with fail
    obtain ⟨bc, hbc⟩ : ∃ bc, w1.heap.size = bc := ⟨_, rfl⟩
    rw [hbc] at hCM hB01 ⊢
    replace hbc := hide hbc
    go_loopw [33] (fun vi wr => ∃ (i : Nat) (st : St), i ≤ L.length ∧ vi = .int .i64 i ∧ CM w3.heap.size bc B0 bM b order st wr ∧ linesR L st0 = linesR (L.drop i) st ∧ st.1.srv.length ≤ 16 ∧ Mod (bc ≤ ·) w3 wr) (fun vi _ => L.length - (intOf vi).toNat)
    case atStart => exact ⟨0, st0, by omega, rfl, hCM.out, by simp, by simp [st0, cfg0], Mod.refl _ _⟩
    case round =>
      obtain ⟨i, st, hil, rfl, hC, hlin, h16, hm⟩ := hrel
      by_cases hlt : i < L.length
      · obtain ⟨⟨n, ws⟩, hx⟩ : ∃ x, L[i]? = some x := ⟨L[i], by simp [hlt]⟩
        obtain ⟨g, u, c, rfl, hx1, hx2, hx3⟩ := hcells.out i _ hx
        obtain ⟨q1, q2, q3, q4⟩ := hLe.out _ (List.mem_of_getElem? hx)
        have hdrop : L.drop i = (n, ws) :: L.drop (i + 1) := by
          rw [← List.getElem_cons_drop hlt]
          congr 1
          have := List.getElem?_eq_getElem hlt
          rw [hx] at this
          exact (Option.some.inj this).symm
        change 0 < ws.length at q2
        change ws.length ≤ l.length at q3
        obtain ⟨gw, cw, e1, -, hcw, hxw⟩ := hx3.open q2
        cases e1
        obtain ⟨cw, rfl⟩ : ∃ cw, cw = c := ⟨_, rfl⟩
        have hg : g < bc := by rw [← hbc.out]; exact lt_of_cell hx1
        have hgw : gw < bc := by rw [← hbc.out]; obtain ⟨s, hs⟩ : ∃ s, ws[0]? = some s := ⟨ws[0], by simp [q2]⟩; exact lt_of_cell (hxw 0 s hs)
        have hcm := hx3.cap
        have y1 : wr.cell? ⟨g, i * 2, none⟩ = some (.int .i64 n) := hm.cellAt (by omega) (hm13.out.cellAt id hx1)
        have y2 : wr.cell? ⟨g, i * 2 + 1, none⟩ = some (.slice (some ⟨gw, 0, none⟩) ws.length cw) := hm.cellAt (by omega) (hm13.out.cellAt id hx2)
        have hwa : Hid (WordsAt gw ws wr) := hide (fun j s hs => hm.cellAt (by omega) (hm13.out.cellAt id (hxw j s hs)))
        have hwb : w.heap.size < bc := by rw [← hbc.out]; exact lt_of_block hb.out
        have hmw2 : Hid (Mod NoB w wr) := hide ((hm1.out.trans hm13.out).into hm (fun b' h => Or.inr (by omega)))
        have hbr : Hid (wr.heap[w.heap.size]? = some (.cells #[.slice none 0 0, .int .i64 0, .int .i64 0, .int .i64 0, .int .i64 0, .int .i64 0] 31 (0, 0))) := hide (hm.heap (hm13.out.heap hb.out id) (by omega))
        have hline := fun (o : Obj) => line_any w3.heap.size bc B0 bM b order st ws gw cw (wr.alloc o) (hC.keep ((Mod.refl _ _).alloc _)) q2 (fun j s hs => ((Mod.refl NoB wr).alloc o).cellAt id (hwa.out j s hs)) hcw hcm (by omega) (fun s hs => by have := q4 s hs; omega) (hL.mod (hmw2.out.alloc _)) (by omega)
        obtain ⟨er, her⟩ : ∃ er, (lineR ws st).1 = er := ⟨_, rfl⟩
        unfold LineOut at hline
        rw [her] at hline
        have hi0 : (0 : Int) ≤ (i : Int) := by omega
        have hi1 : (i : Int) < (L.length : Int) := by omega
        replace hline := hide hline
        replace her := hide her
        replace hC := hide hC
        replace hlin := hide hlin
        replace h16 := hide h16
        replace hm := hide hm
        replace hx1 := hide hx1
        replace hx2 := hide hx2
        replace hx3 := hide hx3
        replace hx := hide hx
        replace hdrop := hide hdrop
        replace hcw := hide hcw
        replace hxw := hide hxw
        replace q4 := hide q4
        go_wp2_with fail
        refine (hline.out _).mono ?_
        rintro e w4 ⟨⟨rfl, hok, hbad⟩, hm4⟩
        by_cases he : er = 0
        · subst he
          have hC4 := hok rfl
          have hm4' := hm.out.trans (((Mod.refl _ _).alloc _).trans hm4)
          have h16' := line_srv her.out h16.out
          have hlin' : linesR L st0 = linesR (L.drop (i + 1)) (lineR ws st).2 := by rw [hlin.out, hdrop.out, linesR_ok her.out]
          replace hC4 := hide hC4
          replace hm4' := hide hm4'
          replace hlin' := hide hlin'
          replace h16' := hide h16'
          clear hok hbad hm4
          go_wp2_with fail
          go_roundw
          case rel => exact ⟨i + 1, (lineR ws st).2, by omega, by go_num, hC4.out, hlin'.out, h16'.out, hm4'.out⟩
          case measure => simp [intOf]; omega
        · have heb : (er != 0) = true := by simpa [bne_iff_ne] using he
          have hmb := hbad he
          have hxb : w4.heap[wr.heap.size]? = some (.cells #[.int .i64 n, .slice (some ⟨gw, 0, none⟩) ws.length cw] 156 (0, 0)) := hmb.heap (heap_alloc_new _ _) (by have := hC.out.size; omega)
          have x0 := cell_of_block hxb 0 (v := .int .i64 n) rfl
          have hb4 : w4.heap[w.heap.size]? = some (.cells #[.slice none 0 0, .int .i64 0, .int .i64 0, .int .i64 0, .int .i64 0, .int .i64 0] 31 (0, 0)) := hm4.heap (((Mod.refl NoB wr).alloc _).heap hbr.out id) (by omega)
          obtain ⟨b0, b1, b2, b3, b4, b5, f0, f1, f2, f3, f4, f5⟩ := six_of hb4
          obtain ⟨W6, hW6, hb6, hm6⟩ := set6 hb4 (.slice none 0 0) (.int .i64 0) (.int .i64 0) (.int .i64 0) (.int .i64 0) (.int .i64 0)
          have hne : w.heap.size ≠ wr.heap.size := by have := lt_of_block hbr.out; omega
          replace hW6 := hide hW6
          replace hb6 := hide hb6
          replace hb4 := hide hb4
          replace hxb := hide hxb
          replace hmb := hide hmb
          replace hm4 := hide hm4
          replace hm6 := hide hm6
          have hrr : Hid (r = (cfg0, (n : Int), er)) := hide (by
            rw [hr2.out, hlin.out, hdrop.out, linesR_bad (by rw [her.out]; exact he), endR_err (by show (lineR ws st).1 ≠ 0; rw [her.out]; exact he)]
            show (cfg0, (n : Int), (lineR ws st).1) = _
            rw [her.out])
          have hmf : Hid (Mod NoB w W6) := hide (((hmw2.out.alloc _).into hm4.out (fun b' h => Or.inr (by omega))).into hm6.out (fun b' e => Or.inr (by omega)))
          clear hok hbad
          go_wp2_with fail
          go_region_with ((fail))
          all_goals
            go_wp2
            rw [hW6.out]
            clear b0 b1 b2 b3 b4 b5 f0 f1 f2 f3 f4 f5
            obtain ⟨b0, b1, b2, b3, b4, b5, -⟩ := six_of hb6.out
            rw [hrr.out]
            refine bodyPost_ret (v := .tuple #[.agg #[.slice none 0 0, .int .i64 0, .int .i64 0, .int .i64 0, .int .i64 0, .int .i64 0], .int .i64 n, .int .i64 er]) (by simp [results, Tryz.results35, go_sem, b0, b1, b2, b3, b4, b5]) rfl ⟨.err, hmf.out.drew⟩
      · obtain rfl : i = L.length := by omega
        rw [List.drop_length] at hlin
        have hend : linesR L st0 = (0, 0, st) := hlin
        rw [hend] at hr2
        clear hlin hend
        have hwb : w.heap.size < bc := by rw [← hbc.out]; exact lt_of_block hb.out
        have hmw2 : Hid (Mod NoB w wr) := hide ((hm1.out.trans hm13.out).into hm (fun b' h => Or.inr (by omega)))
        have hbr : Hid (wr.heap[w.heap.size]? = some (.cells #[.slice none 0 0, .int .i64 0, .int .i64 0, .int .i64 0, .int .i64 0, .int .i64 0] 31 (0, 0))) := hide (hm.heap (hm13.out.heap hb.out id) (by omega))
        obtain ⟨wq, hwq⟩ : ∃ wq, wq = wr := ⟨_, rfl⟩
        rw [← hwq] at hC hbr hmw2 ⊢
        clear hwq hm
        have hmap := hC.map
        replace hC := hide hC
        obtain ⟨es, hes⟩ : ∃ es, (ents (fun k => at0c (b k) 0) order).toArray = es := ⟨_, rfl⟩
        have hold := ents_old (fun k => at0c (b k) 0) order
        have hnd := ents_nodup (fun k => at0c (b k) 0) order
        have hesm : Hid (∀ x ∈ es.toList, ∃ k, k < 5 ∧ x.val = at0c (b k) 0) := hide (by
          intro x hx
          rw [← hes] at hx
          obtain ⟨k, hk, _, h2⟩ := ents_mem (by simpa using hx)
          exact ⟨k, (hall.out k).1 hk, h2⟩)
        have hesk : Hid (∀ k, k < 5 → ∃ x ∈ es.toList, x.val = at0c (b k) 0) := hide (by
          intro k hk
          obtain ⟨x, h1, _, h2⟩ := ents_at (v := fun k => at0c (b k) 0) ((hall.out k).2 hk)
          rw [hes] at h1
          exact ⟨x, h1, h2⟩)
        rw [hes] at hmap hold hnd
        replace hmap := hide hmap
        replace hold := hide hold
        replace hnd := hide hnd
        clear hes
        go_wp2_with (at_range; refine wpList_range_raw rfl _ 154 rfl 9 158 Tryz.underlying154 bM es order.length rfl hmap.out hold.out hnd.out ?_; intro w5 hit5 hm5 hsz5)
        go_frame
        have hC5 := hide (hC.out.keep hm5)
        have hbase : w3.heap.size ≤ wq.heap.size := hC.out.size
        have hb5 := hide (hm5.heap hbr.out id)
        have hmw5 := hide (hmw2.out.trans hm5)
        have hword5 := hide (fun k k5 => (hC5.out.word k k5))
        obtain ⟨rit, hrit⟩ : ∃ rit, wq.heap.size = rit := ⟨_, rfl⟩
        rw [hrit] at hit5 hbase ⊢
        have hbwq : w.heap.size < rit := by rw [← hrit]; exact lt_of_block hbr.out
        have hwle : w.heap.size ≤ rit := by omega
        replace hrit := hide hrit
        replace hm5 := hide hm5
        replace hsz5 := hide hsz5
        replace hit5 := hide hit5
        go_loopw [14] (fun _ wr => ∃ seen, ItAt wr rit bM es order.length seen ∧ (∀ x ∈ es.toList, seen.contains x.born = true → ∃ k, k < 5 ∧ x.val = at0c (b k) 0 ∧ st.2 k = true) ∧ Mod (· = rit) w5 wr) (fun _ wr => itLeft wr bM rit)
        case atStart => exact ⟨#[], hit5.out, by simp, Mod.refl _ _⟩
        case round =>
          obtain ⟨seen, hit, hseen, hm⟩ := hrel
          replace hseen := hide hseen
          replace hm := hide hm
          go_wp2_with (at_next; refine wpList_next_raw rfl _ rfl rit bM es order.length seen rfl hit ?_ ?_)
          · intro hdone
            have hall5 : seenAll st.2 = true := seenAll_true (fun k k5 => by
              obtain ⟨x, hx, hv⟩ := hesk.out k k5
              obtain ⟨k', k5', hv', hs'⟩ := hseen.out x hx (by simpa using hdone x (by simpa using hx))
              have hbb : b k = b k' := by rw [hv] at hv'; simpa using hv'
              by_cases hkk : k = k'
              · rw [hkk]; exact hs'
              · exact absurd hbb (hC5.out.apart k k' k5 k5' hkk))
            obtain ⟨cv, hcb, hcown⟩ := hC.out.cfg
            obtain ⟨sp, sn, sc, rfl⟩ := own_slice hcown
            obtain ⟨rfl, hints, hge⟩ := own_ints hcown
            have hsc : st.1.srv.length ≤ sc := by
              rcases hcown.2 with ⟨h1, h2⟩ | ⟨g, cap', cur, hv, _, _, hc, _⟩
              · simp at h1; omega
              · simp at hv; omega
            have hlow := hC5.out.low
            have hb6 := hm.out.heap hb5.out (by omega)
            have hcb6 := hm.out.heap (hm5.out.heap hcb id) (by omega)
            have hnr : ∀ b' off, sp = some ⟨b', off, none⟩ → b' < rit := fun b' off e => by
              rcases hcown.2 with ⟨h1, h2⟩ | ⟨g, cap', cur, hv, _, hg, _⟩
              · simp at h1; rw [h1.1] at e; cases e
              · simp at hv; rw [hv.1] at e; cases e
                rw [← hrit.out]
                exact lt_of_block hg
            have hints6 : IntsL wr sp st.1.srv := (hints.mod0 hm5.out).mod hm.out (fun b' off e => by have := hnr b' off e; omega)
            have hge2 : ∀ b' off, sp = some ⟨b', off, none⟩ → w.heap.size ≤ b' := fun b' off e => by have := hge b' off e; omega
            have hchk := check_any sp st.1.srv sc st.1.q st.1.l st.1.m st.1.d st.1.s wr hints6 hsc (by omega)
            obtain ⟨c0, c1, c2, c3, c4, c5, -⟩ := six_of hcb6
            have hmr : Hid (Mod NoB w wr) := hide (hmw5.out.into hm.out (fun b' h => Or.inr (by omega)))
            have hr3 := hide (fun (he : checkC st.1 ≠ 0) => hr2.out.trans (endR_check (x := (0, 0, st)) rfl hall5 he))
            have hr4 := hide (fun (he : checkC st.1 = 0) => hr2.out.trans (endR_ok (x := (0, 0, st)) rfl hall5 he))
            have hce : checkR st.1.srv st.1.q st.1.l st.1.m st.1.d st.1.s = checkC st.1 := rfl
            rw [hce] at hchk
            obtain ⟨er, her⟩ : ∃ er, checkC st.1 = er := ⟨_, rfl⟩
            rw [her] at hr3 hr4 hchk
            replace hchk := hide hchk
            replace her := hide her
            replace hcown := hide hcown
            replace hints := hide hints
            replace hints6 := hide hints6
            replace hge := hide hge
            replace hge2 := hide hge2
            replace hnr := hide hnr
            replace hcb := hide hcb
            replace hcb6 := hide hcb6
            replace hb6 := hide hb6
            replace hall5 := hide hall5
            replace hlow := hide hlow
            replace hdone := hide hdone
            clear hce
            go_wp2_with fail
            refine hchk.out.mono ?_
            rintro e w7 ⟨rfl, hm7⟩
            have hb7 := hm7.heap hb6.out id
            have hcb7 := hm7.heap hcb6.out id
            clear c0 c1 c2 c3 c4 c5
            obtain ⟨c0, c1, c2, c3, c4, c5, -⟩ := six_of hcb7
            obtain ⟨b0, b1, b2, b3, b4, b5, f0, f1, f2, f3, f4, f5⟩ := six_of hb7
            have hmr7 := hide (hmr.out.trans hm7)
            have hints7 : Hid (IntsL w7 sp st.1.srv) := hide (hints6.out.mod0 hm7)
            replace hm7 := hide hm7
            replace hcb7 := hide hcb7
            by_cases he : er = 0
            · have heb : (er != 0) = false := by rw [he]; rfl
              obtain ⟨W6, hW6, hb8, hm8⟩ := set6 hb7 (.slice sp st.1.srv.length sc) (.int .i64 st.1.q) (.int .i64 st.1.l) (.int .i64 st.1.m) (.int .i64 st.1.d) (.int .i64 st.1.s)
              have hmf : Hid (Mod NoB w W6) := hide (hmr7.out.into hm8 (fun b' e => Or.inr (by omega)))
              have hints8 : Hid (IntsL W6 sp st.1.srv) := hide (hints7.out.mod hm8 (fun b' off e => by have := hge.out b' off e; have := hlow.out; omega))
              have hrr := hide (hr4.out he)
              replace hW6 := hide hW6
              replace hb8 := hide hb8
              replace hb7 := hide hb7
              clear hm8
              go_wp2
              rw [hW6.out]
              clear b0 b1 b2 b3 b4 b5 f0 f1 f2 f3 f4 f5
              obtain ⟨b0, b1, b2, b3, b4, b5, -⟩ := six_of hb8.out
              rw [hrr.out]
              refine bodyPost_ret (v := .tuple #[.agg #[.slice sp st.1.srv.length sc, .int .i64 st.1.q, .int .i64 st.1.l, .int .i64 st.1.m, .int .i64 st.1.d, .int .i64 st.1.s], .int .i64 0, .int .i64 0]) (by simp [results, Tryz.results35, go_sem, b0, b1, b2, b3, b4, b5]) rfl ⟨⟨sp, sc, rfl, hints8.out, hsc, hge2.out, h16⟩, hmf.out⟩
            · have heb : (er != 0) = true := by simpa [bne_iff_ne] using he
              obtain ⟨W6, hW6, hb8, hm8⟩ := set6 hb7 (.slice none 0 0) (.int .i64 0) (.int .i64 0) (.int .i64 0) (.int .i64 0) (.int .i64 0)
              have hmf : Hid (Mod NoB w W6) := hide (hmr7.out.into hm8 (fun b' e => Or.inr (by omega)))
              have hrr := hide (hr3.out he)
              replace hW6 := hide hW6
              replace hb8 := hide hb8
              replace hb7 := hide hb7
              clear hm8
              go_wp2
              rw [hW6.out]
              clear b0 b1 b2 b3 b4 b5 f0 f1 f2 f3 f4 f5
              obtain ⟨b0, b1, b2, b3, b4, b5, -⟩ := six_of hb8.out
              rw [hrr.out]
              refine bodyPost_ret (v := .tuple #[.agg #[.slice none 0 0, .int .i64 0, .int .i64 0, .int .i64 0, .int .i64 0, .int .i64 0], .int .i64 0, .int .i64 er]) (by simp [results, Tryz.results35, go_sem, b0, b1, b2, b3, b4, b5]) rfl ⟨.err, hmf.out⟩
          · intro e w6 hem hes6 hit6 hm6 hsz6 hlt6 hen6
            obtain ⟨k, k5, hval⟩ := hesm.out e (by simpa using hem)
            obtain ⟨f, hbk⟩ := (hword5.out k k5).at0 k5
            have hkb := (hword5.out k k5).1
            have hbk6 := hm6.heap (hm.out.heap hbk (by omega)) (by omega)
            have c2 := cell_of_block hbk6 2 (v := .bool (st.2 k)) rfl
            rw [hval] at hen6 ⊢
            have hm' : Hid (Mod (· = rit) w5 w6) := hide (hm.out.trans hm6)
            have hseen' : st.2 k = true → ∀ x ∈ es.toList, (seen.push e.born).contains x.born = true → ∃ k, k < 5 ∧ x.val = at0c (b k) 0 ∧ st.2 k = true := by
              intro hk x hx hc
              simp only [Array.contains_push, Bool.or_eq_true, beq_iff_eq] at hc
              rcases hc with hc | hc
              · exact hseen.out x hx hc
              · obtain rfl := born_inj hnd.out hx (by simpa using hem) (by first | exact hc | exact hc.symm)
                exact ⟨k, k5, hval, hk⟩
            replace hseen' := hide hseen'
            replace hbk := hide hbk
            replace hbk6 := hide hbk6
            replace hm6 := hide hm6
            replace hit6 := hide hit6
            replace hsz6 := hide hsz6
            replace hlt6 := hide hlt6
            cases hsn : st.2 k with
            | true =>
              go_wp2_with fail
              go_roundw
              case rel => exact ⟨_, hit6.out, hseen'.out hsn, hm'.out⟩
              case measure => exact hlt6.out
            | false =>
              have hb6 := hm'.out.heap hb5.out (by omega)
              have hrr : Hid (r = (cfg0, (0 : Int), 13)) := hide (by rw [hr2.out]; exact endR_lack rfl (seenAll_false k5 hsn))
              obtain ⟨b0, b1, b2, b3, b4, b5, f0, f1, f2, f3, f4, f5⟩ := six_of hb6
              obtain ⟨W6, hW6, hb7, hm7⟩ := set6 hb6 (.slice none 0 0) (.int .i64 0) (.int .i64 0) (.int .i64 0) (.int .i64 0) (.int .i64 0)
              have hmf : Hid (Mod NoB w W6) := hide ((hmw5.out.into hm'.out (fun b' h => Or.inr (by omega))).into hm7 (fun b' e => Or.inr (by omega)))
              replace hW6 := hide hW6
              replace hb7 := hide hb7
              replace hb6 := hide hb6
              clear hm7
              go_wp2
              rw [hW6.out]
              clear b0 b1 b2 b3 b4 b5 f0 f1 f2 f3 f4 f5
              obtain ⟨b0, b1, b2, b3, b4, b5, -⟩ := six_of hb7.out
              rw [hrr.out]
              refine bodyPost_ret (v := .tuple #[.agg #[.slice none 0 0, .int .i64 0, .int .i64 0, .int .i64 0, .int .i64 0, .int .i64 0], .int .i64 0, .int .i64 13]) (by simp [results, Tryz.results35, go_sem, b0, b1, b2, b3, b4, b5]) rfl ⟨.err, hmf.out⟩
/-- conf.Parse. -/
theorem parse_any (l : List UInt8) (h2 : l.length ≤ 9223372036854775807) (w : World) (hL : LaidN w) :
    Calls Tryz.prog 35 #[.string (bs l)] w fun e w' => ParseOut (parseR l) w e w' ∧ Mod NoB w w' := by
  by_cases hl : 65536 < l.length
  · exact parse_long l hl h2 w
  · exact parse_lines l (by omega) w hL
end Go.Proofs.YtpjfiplejhbdfaaGreatDoor

