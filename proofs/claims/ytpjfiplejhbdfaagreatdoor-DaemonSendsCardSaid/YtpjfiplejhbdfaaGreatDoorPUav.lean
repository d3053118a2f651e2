/- A daemon's stores, and its own cells: what may turn. A daemon asked: Read, Count, Chosen, Last; none asked (contracts). conf.line, walked. conf.line, walked: a known word with as many numbers as it takes. -/
import Derived.Test.YtpjfiplejhbdfaaGreatDoorPUau
import Derived.Test.YtpjfiplejhbdfaaGreatDoorPUaa
import Derived.Test.YtpjfiplejhbdfaaGreatDoorPUan
namespace Go.Proofs.YtpjfiplejhbdfaaGreatDoor
set_option linter.unusedSimpArgs false
open Go.RowKit

theorem ne_type {w : World} {a b : Nat} {c c' : Array Value} {t t' : TypeId} {f f' : Nat × Nat} (ha : w.heap[a]? = some (.cells c t f)) (hb : w.heap[b]? = some (.cells c' t' f')) (h : t ≠ t') : a ≠ b := by
  intro e
  subst e
  rw [ha] at hb
  exact h (Obj.cells.inj (Option.some.inj hb)).2.1
theorem own_block {w : World} {base size n : Nat} {e : TypeId} {v : Value} {xs : List Value} (h : w.ownsRow base e size v n xs) {g : Nat} (hg : v.ownBlock = some g) : ∃ cur, w.heap[g]? = some (.cells cur e (0, 0)) := by
  rcases h.2 with ⟨h0, _⟩ | ⟨g', cap, cur, h0, _, hb, _⟩
  · rw [h0] at hg; cases hg
  · rw [h0] at hg; cases hg; exact ⟨cur, hb⟩
/-- Another store. -/
theorem DO.storeSet {w w' : World} {P : DPl} {d : DaemonS} (h : DO w P d) {i : Nat} {s : StP} {sl' : Value} {xs' : List SampleS} (hs : P.ss[i]? = some s) (hm : Mod (ringOwn s.rb s.sl) w w') (hk : StoreO w' s.b s.rb sl' xs')
    (hown : ∀ g, sl'.ownBlock = some g → s.sl.ownBlock = some g ∨ w.heap.size ≤ g) : DO w' { P with ss := P.ss.set i ⟨s.b, s.rb, sl', xs'⟩ } { d with ss := d.ss.set i xs' } := by
  have hmem := List.mem_of_getElem? hs
  have h0 := h.store s hmem
  obtain ⟨l1, l2, l3⟩ := h.slo s hmem
  obtain ⟨c0, _, hrb⟩ := h0.ring.blk
  have r := h.rest hm (T := [tRing, tSmp]) (only_or (only_one hrb l2 (List.mem_cons_self ..)) (by
    intro k hk
    obtain ⟨cur, hcur⟩ := own_block h0.ring.row hk
    exact ⟨l3 k hk, fun o ho => by rw [hcur] at ho; cases ho; exact List.mem_cons_of_mem _ (List.mem_singleton.2 rfl)⟩))
  have hlen : i < P.ss.length := (List.getElem?_eq_some_iff.1 hs).1
  have hsi : P.ss[i] = s := (List.getElem?_eq_some_iff.1 hs).2
  have hbs : (P.ss.set i ⟨s.b, s.rb, sl', xs'⟩).map (fun s => at0 s.b) = P.ss.map fun s => at0 s.b := by
    rw [List.map_set]
    apply List.ext_getElem?
    intro k
    by_cases e : i = k
    · subst e; simp [hlen, hsi]
    · rw [List.getElem?_set_ne e]
  have other : ∀ (j : Nat) (y : StP), P.ss[j]? = some y → i ≠ j → y.b ≠ s.b ∧ y.rb ≠ s.rb ∧ ∀ g, y.sl.ownBlock = some g → s.sl.ownBlock ≠ some g := by
    intro j y hy e
    obtain ⟨hj, hyj⟩ := List.getElem?_eq_some_iff.1 hy
    have hpw := List.pairwise_iff_getElem.1 h.sinj
    rcases Nat.lt_or_gt_of_ne e with hlt | hlt
    · have := hpw i j hlen hj hlt
      rw [hsi, hyj] at this
      exact ⟨this.1.symm, this.2.1.symm, fun g hg hg2 => this.2.2 g hg2 hg⟩
    · have := hpw j i hj hlen hlt
      rw [hsi, hyj] at this
      exact this
  have keep : ∀ (j : Nat) (y : StP), P.ss[j]? = some y → i ≠ j → StoreO w' y.b y.rb y.sl y.xs := by
    intro j y hy e
    have hyo := h.store y (List.mem_of_getElem? hy)
    obtain ⟨o1, o2, o3⟩ := other j y hy e
    obtain ⟨cy, _, hyb⟩ := hyo.ring.blk
    refine hyo.mod hm ?_ ?_ ?_
    · rintro (e1 | e1)
      · exact ne_type hyo.blk hrb (by decide) e1
      · obtain ⟨cur, hcur⟩ := own_block h0.ring.row e1
        exact ne_type hyo.blk hcur (by decide) rfl
    · rintro (e1 | e1)
      · exact o2 e1
      · obtain ⟨cur, hcur⟩ := own_block h0.ring.row e1
        exact ne_type hyb hcur (by decide) rfl
    · intro g hg
      obtain ⟨cur, hcur⟩ := own_block hyo.ring.row hg
      rintro (e1 | e1)
      · exact ne_type hcur hrb (by decide) e1
      · exact o3 g hg e1
  have pair : ∀ (j : Nat) (y : StP), P.ss[j]? = some y → i ≠ j → ∀ g, y.sl.ownBlock = some g → sl'.ownBlock ≠ some g := by
    intro j y hy e g hg hg2
    rcases hown g hg2 with h1 | h1
    · exact (other j y hy e).2.2 g hg h1
    · obtain ⟨cur, hcur⟩ := own_block (h.store y (List.mem_of_getElem? hy)).ring.row hg
      have := lt_of_block hcur
      omega
  refine ⟨(r.blk (by decide)).trans h.blk, r.srv, h.srvl, r.clk (by decide), r.prow (by decide), h.pn, r.peer (by decide) (by decide), h.pinj, h.plo, ?_, ?_, ?_, ?_, ?_, r.que (by decide) (by decide), r.cnt (by decide), r.vrow (by decide), h.los, r.lts⟩
  · have := r.srow (by decide)
    show w'.ownsRow 0 _ 1 P.sv (P.ss.set i _).length ((P.ss.set i _).map _)
    rw [hbs, List.length_set]
    exact this
  · show (P.ss.set i _).map (·.xs) = d.ss.set i xs'
    rw [List.map_set, h.sxs]
  · intro y hy
    obtain ⟨j, hj⟩ := List.mem_iff_getElem?.1 hy
    by_cases e : i = j
    · subst e
      have hj : (P.ss.set i ⟨s.b, s.rb, sl', xs'⟩)[i]? = some y := hj
      simp [hlen] at hj
      subst hj
      exact hk
    · exact keep j y (by rw [← hj]; exact (List.getElem?_set_ne e).symm) e
  · show (P.ss.set i _).Pairwise _
    rw [List.pairwise_iff_getElem]
    intro a b ha hb hab
    rw [List.length_set] at ha hb
    have hpw := List.pairwise_iff_getElem.1 h.sinj a b ha hb hab
    rw [List.getElem_set, List.getElem_set]
    by_cases ea : i = a
    · subst ea
      rw [if_pos rfl, if_neg (by omega)]
      rw [hsi] at hpw
      exact ⟨hpw.1, hpw.2.1, fun g hg hg2 => pair b _ (List.getElem?_eq_getElem hb) (by omega) g hg2 hg⟩
    · rw [if_neg ea]
      by_cases eb : i = b
      · subst eb
        rw [if_pos rfl]
        rw [hsi] at hpw
        exact ⟨hpw.1, hpw.2.1, fun g hg => pair a _ (List.getElem?_eq_getElem ha) ea g hg⟩
      · rw [if_neg eb]
        exact hpw
  · intro y hy
    obtain ⟨j, hj⟩ := List.mem_iff_getElem?.1 hy
    by_cases e : i = j
    · subst e
      have hj : (P.ss.set i ⟨s.b, s.rb, sl', xs'⟩)[i]? = some y := hj
      simp [hlen] at hj
      subst hj
      refine ⟨l1, l2, fun g hg => ?_⟩
      rcases hown g hg with h1 | h1
      · exact l3 g h1
      · exact Nat.le_trans h.lts h1
    · exact h.slo y (List.mem_of_getElem? (by rw [← hj]; exact (List.getElem?_set_ne e).symm))
/-- Its own cells. -/
theorem DO.self {w w' : World} {P : DPl} {d : DaemonS} (h : DO w P d) (hm : Mod (· = P.b) w w') (draw : Nat) (hh theta chosen : Int) (votes : List VoteS) (vv : Value)
    (hb : w'.heap[P.b]? = some (.cells #[.slice P.sp d.c.srv.length P.sc, .int .i64 d.c.q, .int .i64 d.c.l, .int .i64 d.c.m, .int .i64 d.c.d, .int .i64 d.c.s, at0 P.bk, P.pv, P.sv, at0 P.bq, at0 P.bc, .int .u64 (draw : Int), .int .i64 hh, .int .i64 theta, vv, .int .i64 chosen] 100 (0, 0)))
    (hv : w'.ownsRow 0 257 6 vv votes.length (vcells votes)) : DO w' { P with vv := vv } { d with draw := draw, h := hh, theta := theta, votes := votes, chosen := chosen } := by
  have r := h.rest hm (T := [tDmn]) (only_one h.blk h.los.1 (List.mem_singleton.2 rfl))
  exact ⟨hb, r.srv, h.srvl, r.clk (by decide), r.prow (by decide), h.pn, r.peer (by decide) (by decide), h.pinj, h.plo, r.srow (by decide), h.sxs, r.store (by decide) (by decide) (by decide), h.sinj, h.slo, r.que (by decide) (by decide), r.cnt (by decide), hv, h.los, r.lts⟩
end Go.Proofs.YtpjfiplejhbdfaaGreatDoor

namespace Go.Proofs.YtpjfiplejhbdfaaGreatDoor
set_option linter.unusedSimpArgs false
open Go.RowKit

/-- What holds of a daemon at any time. -/
structure DaemonS.Ok (d : DaemonS) : Prop where
  c : checkC d.c = 0
  k : d.k.Ok
  p : ∀ p ∈ d.ps, p.Ok ∧ I64 p.clock ∧ p.cookie < 18446744073709551616
  dr : d.draw < 18446744073709551616
  s : ∀ l ∈ d.ss, l.length ≤ 8 ∧ ∀ x ∈ l, x.Ok
  pn : d.ps.length = d.c.srv.length
  sn : d.ss.length = d.c.srv.length
  n : d.n.length = 13
  nn : ∀ k, 0 ≤ d.n.getD k 0
  h0 : d.k.h ≤ d.h
  h1 : d.h ≤ 4611686018427387903
theorem dchosen_any (P : DPl) (d : DaemonS) (w : World) (hd : DO w P d) :
    Calls Tryz.prog 34 #[at0 P.b] w fun e w' => e = .returned (.int .i64 d.chosen) ∧ w = w' := by
  have k15 := cell_of_block hd.blk 15 rfl
  clear hd
  go_enter Tryz.func34, Tryz.ntmps34
  go_wp2
  go_ret
  exact ⟨rfl, rfl⟩
theorem place_le (x : Int) (l : List Int) : placeOf x l ≤ l.length := by
  induction l with
  | nil => simp [placeOf]
  | cons y l ih => unfold placeOf; split <;> simp <;> omega
theorem idxFrom_place (x : Int) : ∀ (l : List Int) (i : Nat), Lib.idxFrom l x i = if placeOf x l = l.length then -1 else ((i + placeOf x l : Nat) : Int) := by
  intro l
  induction l with
  | nil => intro i; simp [Lib.idxFrom, placeOf]
  | cons y l ih =>
    intro i
    unfold Lib.idxFrom placeOf
    by_cases h : y = x
    · simp [h]
    · have hle := place_le x l
      rw [if_neg h, if_neg h, ih (i + 1)]
      by_cases h2 : placeOf x l = l.length
      · simp [h2]
      · rw [if_neg h2, if_neg (by simp; omega)]
        omega
/-- Index of a number among servers. -/
theorem idx_place (l : List Int) (x : Int) : Lib.idxOf l x = if placeOf x l = l.length then -1 else (placeOf x l : Int) := by
  unfold Lib.idxOf
  rw [idxFrom_place]
  simp
theorem index_any (p : Option Addr) (c : Nat) (l : List Int) (hl : l.length ≤ 1000) (x : Int) (w : World) (hi : IntsL w p l) :
    Calls Tryz.prog 93 #[.slice p l.length c, .int .i64 x] w fun e w' => e = .returned (.int .i64 (if placeOf x l = l.length then -1 else (placeOf x l : Int))) ∧ w = w' := by
  cases l with
  | nil =>
    refine (Tryz.slices_Index_int_empty p c x w).mono ?_
    rintro e w' ⟨rfl, rfl⟩
    exact ⟨by rw [idx_place], rfl⟩
  | cons y l =>
    obtain ⟨g, off, rfl, _, _⟩ := hi 0 (by simp)
    refine (Tryz.slices_Index_int g off (y :: l).length c (y :: l) x w (Nat.le_refl _) (by omega) (fun j hj => ?_)).mono ?_
    · obtain ⟨g', off', h1, _, h2⟩ := hi j hj
      cases h1
      exact h2
    · rintro e w' ⟨rfl, rfl⟩
      exact ⟨by rw [List.take_length, idx_place], rfl⟩
/-- A pointer out of a row of them. -/
theorem ptr_cell {w : World} {base : Nat} {t : TypeId} {v : Value} {xs : List Value} (h : w.ownsRow base t 1 v xs.length xs) {i : Nat} {x : Value} (hx : xs[i]? = some x) : ∃ g c, v = .slice (some ⟨g, 0, none⟩) xs.length c ∧ w.cell? ⟨g, i, none⟩ = some x := by
  have hlt : i < xs.length := (List.getElem?_eq_some_iff.1 hx).1
  rcases h.2 with ⟨_, h1⟩ | ⟨g, cap, cur, hv, _, hg, _, _, _, htk⟩
  · omega
  · refine ⟨g, cap, hv, cell_of_block hg i ?_⟩
    rw [← htk, List.getElem?_take_of_lt (by omega), Array.getElem?_toList] at hx
    exact hx
end Go.Proofs.YtpjfiplejhbdfaaGreatDoor

namespace Go.Proofs.YtpjfiplejhbdfaaGreatDoor
open Go.RowKit

theorem ents_at {v : Nat → Value} {order : List Nat} {k : Nat} (h : k ∈ order) : ∃ x ∈ (ents v order).toArray.toList, x.key = .string ⟨(keyW k).toArray⟩ ∧ x.val = v k := by
  obtain ⟨i, hi, rfl⟩ := List.getElem_of_mem h
  refine ⟨{ key := .string ⟨(keyW order[i]).toArray⟩, val := v order[i], born := i }, ?_, rfl, rfl⟩
  unfold ents
  simp only [List.mem_map]
  exact ⟨(order[i], i), by rw [List.mem_zipIdx_iff_getElem?]; simp [hi], rfl⟩
theorem zeroWord (w : World) : (zeroValue 158).run Tryz.prog w = .ok (.pointer none) w := by kernel_rfl
theorem look_word {bM : Nat} {b : Nat → Nat} {order : List Nat} {w : World} {k : Nat} (k5 : k < 5) (hb : w.heap[bM]? = some (.map (ents (fun k => at0c (b k) 0) order).toArray order.length)) (hall : ∀ k, k ∈ order ↔ k < 5) {s : List UInt8} (hs : keyW k = s) :
    (Instr.lookup 154 (.map (some bM)) (.string (bs s)) true).run Tryz.prog w = .ok (.tuple #[at0c (b k) 0, .bool true]) w := by
  subst hs
  obtain ⟨x, hx, hk, hv⟩ := ents_at (v := fun k => at0c (b k) 0) ((hall k).2 k5)
  have := run_lookS Tryz.underlying154 Tryz.underlying9 (bs (keyW k)) (e := x) hb ents_keys hx hk (by
    intro y hy hyk
    obtain ⟨j, hj, h1, h2⟩ := ents_mem (by simpa using hy)
    rw [h1] at hyk
    have h3 : keyW j = keyW k := by simpa using hyk
    obtain rfl := keyW_inj j ((hall j).1 hj) k k5 h3
    rw [h2, hv])
  rw [hv] at this
  exact this
theorem look_none {bM : Nat} {b : Nat → Nat} {order : List Nat} {w : World} (hb : w.heap[bM]? = some (.map (ents (fun k => at0c (b k) 0) order).toArray order.length)) (hall : ∀ k, k ∈ order ↔ k < 5) {s : List UInt8} (hs : keyOf s = none) :
    (Instr.lookup 154 (.map (some bM)) (.string (bs s)) true).run Tryz.prog w = .ok (.tuple #[.pointer none, .bool false]) w := by
  refine run_lookN Tryz.underlying154 Tryz.underlying9 zeroWord (bs s) hb ents_keys ?_
  intro x hx e
  obtain ⟨j, hj, h1, _⟩ := ents_mem (by simpa using hx)
  rw [h1] at e
  exact keyOf_none hs j ((hall j).1 hj) (by simpa using e)

/-- The words of a line in memory. -/
def WordsAt (g : Nat) (ws : List (List UInt8)) (w : World) : Prop := ∀ j s, ws[j]? = some s → w.cell? ⟨g, j, none⟩ = some (.string (bs s))

def LineOut (base bc B0 bM : Nat) (b : Nat → Nat) (order : List Nat) (st : St) (ws : List (List UInt8)) (w : World) (e : Ending) (w' : World) : Prop :=
  e = .returned (.int .i64 (lineR ws st).1) ∧ ((lineR ws st).1 = 0 → CM base bc B0 bM b order (lineR ws st).2 w') ∧ ((lineR ws st).1 ≠ 0 → Mod (fun x => bc ≤ x ∧ x < base) w w')

theorem many_small : ∀ k, k < 5 → manyW k = 1 ∨ manyW k = 2 := by decide
theorem many_fields : ∀ k, k < 5 → 0 < k → ((fieldsW k).length : Int) = manyW k := by decide

theorem WordB.at0 {base bc B0 k : Nat} {seen : Bool} {w : World} {b : Nat} (h : WordB base bc B0 k seen w b) (k5 : k < 5) : ∃ f, w.heap[b]? = some (.cells #[.int .i64 (manyW k), .bool (decide (k = 0)), .bool seen, f] 161 (0, 0)) := by
  obtain ⟨_, h⟩ := h
  by_cases hk : k = 0
  · subst hk
    rw [if_pos rfl] at h
    exact ⟨_, h⟩
  · rw [if_neg hk] at h
    obtain ⟨bl, ba, _, _, h1, _⟩ := h
    rw [many_fields k k5 (by omega)] at h1
    refine ⟨fTake bl, ?_⟩
    rw [h1]
    simp [hk]

set_option maxRecDepth 100000 in
set_option maxHeartbeats 4000000 in
theorem line_none (base bc B0 bM : Nat) (b : Nat → Nat) (order : List Nat) (st : St) (ws : List (List UInt8)) (g cap : Nat) (w : World) (hC : CM base bc B0 bM b order st w) (h0 : 0 < ws.length) (hw : WordsAt g ws w) (hk : keyOf (ws.getD 0 []) = none) :
    Calls Tryz.prog 73 #[.map (some bM), .slice (some ⟨g, 0, none⟩) ws.length cap] w fun e w' => e = .returned (.int .i64 10) ∧ w' = w := by
  obtain ⟨s, hs⟩ : ∃ s, ws[0]? = some s := ⟨ws[0], by simp [h0]⟩
  have hc := hw 0 s hs
  have hk' : keyOf s = none := by simpa [List.getD, hs] using hk
  have hlk := look_none (w := w) hC.map hC.all hk'
  have hl0 : (0 : Int) < (ws.length : Int) := by omega
  clear hs hk hk' hw hC
  go_enter Tryz.func73, Tryz.ntmps73
  go_wp2
  go_ret
  exact ⟨rfl, rfl⟩

set_option maxRecDepth 100000 in
set_option maxHeartbeats 4000000 in
theorem line_form (base bc B0 bM : Nat) (b : Nat → Nat) (order : List Nat) (st : St) (ws : List (List UInt8)) (g cap : Nat) (w : World) (hC : CM base bc B0 bM b order st w) (h0 : 0 < ws.length) (hw : WordsAt g ws w) {k : Nat} (hk : keyOf (ws.getD 0 []) = some k) (hl : ws.length < 1000000) (hn : (ws.length : Int) ≠ 1 + manyW k) :
    Calls Tryz.prog 73 #[.map (some bM), .slice (some ⟨g, 0, none⟩) ws.length cap] w fun e w' => e = .returned (.int .i64 6) ∧ w' = w := by
  obtain ⟨s, hs⟩ : ∃ s, ws[0]? = some s := ⟨ws[0], by simp [h0]⟩
  have hc := hw 0 s hs
  have hk' : keyOf s = some k := by simpa [List.getD, hs] using hk
  obtain ⟨k5, hks⟩ := keyOf_some hk'
  have hlk := look_word (w := w) k5 hC.map hC.all hks
  have hl0 : (0 : Int) < (ws.length : Int) := by omega
  obtain ⟨f, hb⟩ := (hC.word k k5).at0 k5
  have hc0 := cell_of_block hb 0 (v := .int .i64 (manyW k)) rfl
  have hms := many_small k k5
  generalize manyW k = m at hn hc0 hms
  have hm0 : 0 ≤ m := by omega
  have hm1 : m ≤ 2 := by omega
  have hne : ((ws.length : Int) != 1 + m) = true := by simpa [bne_iff_ne] using hn
  clear hs hk hk' hw hC hks hb hms hn
  go_enter Tryz.func73, Tryz.ntmps73
  go_wp2
  go_ret
  exact ⟨rfl, rfl⟩
end Go.Proofs.YtpjfiplejhbdfaaGreatDoor

namespace Go.Proofs.YtpjfiplejhbdfaaGreatDoor
open Go.RowKit

/-- The numbers of the first i words. -/
def numsV (ns : List (List UInt8)) (i : Nat) : List Int := (ns.take i).map fun s => (numR s).1
theorem numsV_succ {ns : List (List UInt8)} {i : Nat} {s : List UInt8} (h : ns[i]? = some s) : numsV ns (i + 1) = numsV ns i ++ [(numR s).1] := by
  unfold numsV
  rw [List.take_add_one, h]
  simp
theorem numsV_len {ns : List (List UInt8)} {i : Nat} (h : i ≤ ns.length) : (numsV ns i).length = i := by
  simp [numsV]; omega

theorem CM.seen {base bc B0 bM : Nat} {b : Nat → Nat} {order : List Nat} {st : St} {w : World} (h : CM base bc B0 bM b order st w) {k : Nat} (k5 : k < 5) :
    CM base bc B0 bM b order (st.1, upd st.2 k true) (w.setCell ⟨b k, 2, none⟩ (.bool true)) := by
  have hm : Mod (· = b k) w (w.setCell ⟨b k, 2, none⟩ (.bool true)) := (Mod.refl _ _).set1 _ _
  obtain ⟨f, hb⟩ := (h.word k k5).at0 k5
  obtain ⟨v, c1, c2⟩ := h.cfg
  have hlt := (h.word k k5).1
  have hbk := h.ahead.2.2 k k5
  refine ⟨hm.heap h.map (fun e => by have := h.map; rw [e, hb] at this; cases this), h.nodup, h.all, hm.heap h.box (fun e => by have := h.box; rw [e, hb] at this; cases this), ?_, h.apart, ?_, h.low, h.ahead, Nat.le_trans h.size hm.size⟩
  · intro j j5
    by_cases hj : j = k
    · subst hj
      show WordB base bc B0 j (upd st.2 j true j) _ _
      rw [upd_same]
      obtain ⟨h1, h2⟩ := h.word j j5
      refine ⟨h1, ?_⟩
      by_cases hj0 : j = 0
      · rw [if_pos hj0] at h2 ⊢
        rw [heap_setCell_eq h2]; simp
      · rw [if_neg hj0] at h2 ⊢
        obtain ⟨bl, ba, l1, l2, g1, g2, g3⟩ := h2
        refine ⟨bl, ba, l1, l2, by rw [heap_setCell_eq g1]; simp, hm.heap g2 (fun e => by rw [e, g1] at g2; simp at g2), hm.heap g3 (fun e => by rw [e, g1] at g3; simp at g3)⟩
    · show WordB base bc B0 j (upd st.2 k true j) _ _
      rw [upd_ne _ _ hj]
      obtain ⟨h1, h2⟩ := h.word j j5
      refine ⟨h1, ?_⟩
      have hjk := h.apart j k j5 k5 hj
      by_cases hj0 : j = 0
      · rw [if_pos hj0] at h2 ⊢
        exact hm.heap h2 hjk
      · rw [if_neg hj0] at h2 ⊢
        obtain ⟨bl, ba, l1, l2, g1, g2, g3⟩ := h2
        exact ⟨bl, ba, l1, l2, hm.heap g1 hjk, hm.heap g2 (fun e => by rw [e, hb] at g2; simp at g2), hm.heap g3 (fun e => by rw [e, hb] at g3; simp at g3)⟩
  · exact ⟨v, hm.heap c1 (fun e => by rw [e, hb] at c1; simp at c1), ownsRow_mod c2 hm (fun x e => by omega)⟩

/-- The config is written. -/
theorem CM.put {base bc B0 bM : Nat} {b : Nat → Nat} {order : List Nat} {st : St} {w w' : World} (h : CM base bc B0 bM b order st w) {a : Cfg} (hm : Mod (fun x => x = bc ∨ base ≤ x) w w') (hc : CfgAt base bc a w') : CM base bc B0 bM b order (a, st.2) w' := by
  obtain ⟨v, c1, _⟩ := h.cfg
  obtain ⟨a1, a2, a3⟩ := h.ahead
  obtain ⟨l1, l2, l3⟩ := h.low
  refine ⟨hm.heap h.map (by omega), h.nodup, h.all, hm.heap h.box (by omega), fun k k5 => (h.word k k5).keep hm ?_, h.apart, hc, h.low, h.ahead, Nat.le_trans h.size hm.size⟩
  intro x c t hx hb ht
  rintro (rfl | e)
  · rw [c1] at hb
    simp only [Option.some.injEq, Obj.cells.injEq] at hb
    obtain ⟨_, rfl, _⟩ := hb
    rcases ht with e | e | e <;> exact absurd e (by decide)
  · omega
end Go.Proofs.YtpjfiplejhbdfaaGreatDoor

