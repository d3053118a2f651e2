/- Maps with ints as keys, entry by entry: a key put in, a look. When a daemon wants something: plain. daemon.Do (contract): its map of methods; errors. -/
import Derived.Test.YtpjfiplejhbdfaaGreatDoorPUae
import Derived.Test.YtpjfiplejhbdfaaGreatDoorPUay
import Derived.Test.YtpjfiplejhbdfaaGreatDoorPUaz
import Derived.Laws.EntriesVeiled
namespace Go.Proofs.YtpjfiplejhbdfaaGreatDoor
open Go.RowKit Go.MapKept

variable {P : Program} {t kt et : TypeId}
theorem run_insI (ht : P.underlying t = some (.map kt et)) (hkt : P.underlying kt = some (.int .i64)) {w : World} {r c : Nat} {es : Array MapEntry} (k : Int) (v : Value) (hb : w.heap[r]? = some (.map es c))
    (hkeys : ∀ x ∈ es.toList, IsKey (.int .i64) x.key) (hno : ∀ x ∈ es.toList, x.key ≠ .int .i64 k) :
    (Instr.mapUpdate t (.map (some r)) (.int .i64 k) v).run P w = .ok () (setO w r (.map (es.push { key := .int .i64 k, val := v, born := c }) (c + 1))) := by
  have hk : IsKey (.int .i64) (.int .i64 k) := rfl
  have hf : Instr.findNow (.int .i64) (.int .i64 k) es.toList 0 = some none := by
    rcases findNow_spec hk es.toList 0 hkeys with ⟨h, _⟩ | ⟨j, e, _, h2, h3⟩
    · exact h
    · exact absurd h3 (hno e (List.mem_of_getElem? h2))
  have hck : ∀ e, (Instr.checkKey e 10000 kt (.int .i64 k)).run P w = .ok () w := fun e => Go.MapKept.run_checkKey hkt hk e 9999
  unfold Instr.mapUpdate
  simp [run_underlying ht, Go.MapKept.run_getObj_map hb, Go.MapKept.run_setObj_map _ hb, hck, run_findKey hkt hf, go_sem]
  rfl
theorem run_lookI (ht : P.underlying t = some (.map kt et)) (hkt : P.underlying kt = some (.int .i64)) {w : World} {r c : Nat} {es : Array MapEntry} (k : Int) {e : MapEntry} (hb : w.heap[r]? = some (.map es c))
    (hkeys : ∀ x ∈ es.toList, IsKey (.int .i64) x.key) (hin : e ∈ es.toList) (hek : e.key = .int .i64 k) (huniq : ∀ x ∈ es.toList, x.key = .int .i64 k → x.val = e.val) :
    (Instr.lookup t (.map (some r)) (.int .i64 k) true).run P w = .ok (.tuple #[e.val, .bool true]) w := by
  have hk : IsKey (.int .i64) (.int .i64 k) := rfl
  obtain ⟨j, e', hf, h2, h3⟩ : ∃ j e', Instr.findNow (.int .i64) (.int .i64 k) es.toList 0 = some (some (0 + j, e'.val)) ∧ es.toList[j]? = some e' ∧ e'.key = .int .i64 k := by
    rcases findNow_spec hk es.toList 0 hkeys with ⟨_, h⟩ | ⟨j, e', h1, h2, h3⟩
    · exact absurd hek (h e hin)
    · exact ⟨j, e', h1, h2, h3⟩
  have hv := huniq e' (List.mem_of_getElem? h2) h3
  have hck : ∀ e, (Instr.checkKey e 10000 kt (.int .i64 k)).run P w = .ok () w := fun e => Go.MapKept.run_checkKey hkt hk e 9999
  unfold Instr.lookup
  simp [run_underlying ht, Go.MapKept.run_getObj_map hb, hck, run_findKey hkt hf, go_sem, hv]
theorem run_lookNI (ht : P.underlying t = some (.map kt et)) (hkt : P.underlying kt = some (.int .i64)) {z : Value} (hz : ∀ w, (zeroValue et).run P w = .ok z w) {w : World} {r c : Nat} {es : Array MapEntry} (k : Int) (hb : w.heap[r]? = some (.map es c))
    (hkeys : ∀ x ∈ es.toList, IsKey (.int .i64) x.key) (hno : ∀ x ∈ es.toList, x.key ≠ .int .i64 k) :
    (Instr.lookup t (.map (some r)) (.int .i64 k) true).run P w = .ok (.tuple #[z, .bool false]) w := by
  have hk : IsKey (.int .i64) (.int .i64 k) := rfl
  have hf : Instr.findNow (.int .i64) (.int .i64 k) es.toList 0 = some none := by
    rcases findNow_spec hk es.toList 0 hkeys with ⟨h, _⟩ | ⟨j, e, _, h2, h3⟩
    · exact h
    · exact absurd h3 (hno e (List.mem_of_getElem? h2))
  have hck : ∀ e, (Instr.checkKey e 10000 kt (.int .i64 k)).run P w = .ok () w := fun e => Go.MapKept.run_checkKey hkt hk e 9999
  unfold Instr.lookup
  simp [run_underlying ht, Go.MapKept.run_getObj_map hb, hck, run_findKey hkt hf, go_sem, hz]
/-- A map of two keys, 0 and 1. -/
def two01 (f0 f1 : Value) : Array MapEntry := #[{ key := .int .i64 0, val := f0, born := 0 }, { key := .int .i64 1, val := f1, born := 1 }]
theorem run_two0 (ht : P.underlying t = some (.map kt et)) (hkt : P.underlying kt = some (.int .i64)) {w : World} {r : Nat} (f0 : Value) (hb : w.heap[r]? = some (.map #[] 0)) :
    (Instr.mapUpdate t (.map (some r)) (.int .i64 0) f0).run P w = .ok () (setO w r (.map #[{ key := .int .i64 0, val := f0, born := 0 }] 1)) := by
  have := run_insI (P := P) ht hkt 0 f0 hb (fun x hx => by simp at hx) (fun x hx => by simp at hx)
  simpa using this
theorem run_two1 (ht : P.underlying t = some (.map kt et)) (hkt : P.underlying kt = some (.int .i64)) {w : World} {r : Nat} (f0 f1 : Value) (hb : w.heap[r]? = some (.map #[{ key := .int .i64 0, val := f0, born := 0 }] 1)) :
    (Instr.mapUpdate t (.map (some r)) (.int .i64 1) f1).run P w = .ok () (setO w r (.map (two01 f0 f1) 2)) := by
  have := run_insI (P := P) ht hkt 1 f1 hb (fun x hx => by simp at hx; subst hx; rfl) (fun x hx => by simp at hx; subst hx; simp)
  simpa [two01] using this
theorem two01_keys (f0 f1 : Value) : ∀ x ∈ (two01 f0 f1).toList, IsKey (.int .i64) x.key := by
  intro x hx
  simp [two01] at hx
  rcases hx with rfl | rfl <;> rfl
theorem run_look0 (ht : P.underlying t = some (.map kt et)) (hkt : P.underlying kt = some (.int .i64)) {w : World} {r : Nat} {f0 f1 : Value} (hb : w.heap[r]? = some (.map (two01 f0 f1) 2)) :
    (Instr.lookup t (.map (some r)) (.int .i64 0) true).run P w = .ok (.tuple #[f0, .bool true]) w :=
  run_lookI ht hkt 0 (e := { key := .int .i64 0, val := f0, born := 0 }) hb (two01_keys _ _) (by simp [two01]) rfl (fun x hx hk => by simp [two01] at hx; rcases hx with rfl | rfl; rfl; simp at hk)
theorem run_look1 (ht : P.underlying t = some (.map kt et)) (hkt : P.underlying kt = some (.int .i64)) {w : World} {r : Nat} {f0 f1 : Value} (hb : w.heap[r]? = some (.map (two01 f0 f1) 2)) :
    (Instr.lookup t (.map (some r)) (.int .i64 1) true).run P w = .ok (.tuple #[f1, .bool true]) w :=
  run_lookI ht hkt 1 (e := { key := .int .i64 1, val := f1, born := 1 }) hb (two01_keys _ _) (by simp [two01]) rfl (fun x hx hk => by simp [two01] at hx; rcases hx with rfl | rfl; simp at hk; rfl)
theorem run_look2 (ht : P.underlying t = some (.map kt et)) (hkt : P.underlying kt = some (.int .i64)) {z : Value} (hz : ∀ w, (zeroValue et).run P w = .ok z w) {w : World} {r : Nat} {f0 f1 : Value} (k : Int) (h0 : k ≠ 0) (h1 : k ≠ 1) (hb : w.heap[r]? = some (.map (two01 f0 f1) 2)) :
    (Instr.lookup t (.map (some r)) (.int .i64 k) true).run P w = .ok (.tuple #[z, .bool false]) w :=
  run_lookNI ht hkt hz k hb (two01_keys _ _) (fun x hx hk => by simp [two01] at hx; rcases hx with rfl | rfl <;> simp at hk <;> omega)
end Go.Proofs.YtpjfiplejhbdfaaGreatDoor

namespace Go.Proofs.YtpjfiplejhbdfaaGreatDoor
set_option linter.unusedSimpArgs false
open Go.RowKit

theorem min_fold : ∀ (ps : List PeerS) (a : Int), (ps.foldl (fun a p => if p.next < a then p.next else a) a ≤ a) ∧ (∀ p ∈ ps, ps.foldl (fun a p => if p.next < a then p.next else a) a ≤ p.next) ∧
    (ps.foldl (fun a p => if p.next < a then p.next else a) a = a ∨ ∃ p ∈ ps, ps.foldl (fun a p => if p.next < a then p.next else a) a = p.next) := by
  intro ps
  induction ps with
  | nil => intro a; exact ⟨Int.le_refl _, by simp, Or.inl rfl⟩
  | cons q ps ih =>
    intro a
    obtain ⟨h1, h2, h3⟩ := ih (if q.next < a then q.next else a)
    simp only [List.foldl_cons]
    generalize List.foldl (fun a p => if PeerS.next p < a then PeerS.next p else a) (if q.next < a then q.next else a) ps = r at *
    have hq : (if q.next < a then q.next else a) ≤ a ∧ (if q.next < a then q.next else a) ≤ q.next := by
      constructor <;> split <;> omega
    refine ⟨by omega, ?_, ?_⟩
    · intro p hp
      rcases List.mem_cons.1 hp with rfl | hp
      · omega
      · exact h2 p hp
    · rcases h3 with h3 | ⟨p, hp, h3⟩
      · by_cases hlt : q.next < a
        · rw [if_pos hlt] at h3
          exact Or.inr ⟨q, by simp, h3⟩
        · rw [if_neg hlt] at h3
          exact Or.inl h3
      · exact Or.inr ⟨p, by simp [hp], h3⟩
/-- The queue knows when each peer wants something. -/
def QFor (L : List (Int × Int)) (ps : List PeerS) (k : Nat) : Prop := ∀ i, i < k → ∀ p, ps[i]? = some p → i < L.length ∧ qat L i = p.next
theorem wakeS_min {v : Int} {L : List (Int × Int)} {ps : List PeerS} (hm : IsMinQ v L) (hl : L.length = ps.length) (hq : QFor L ps ps.length) : v = wakeS ps := by
  obtain ⟨⟨i, hi, hv⟩, hall⟩ := hm
  cases ps with
  | nil => simp at hl; rw [hl] at hi; simp at hi
  | cons q ps =>
    obtain ⟨h1, h2, h3⟩ := min_fold ps q.next
    show v = ps.foldl _ q.next
    generalize List.foldl (fun a p => if PeerS.next p < a then PeerS.next p else a) q.next ps = r at *
    have hle : ∀ p ∈ q :: ps, v ≤ p.next := by
      intro p hp
      obtain ⟨j, hj⟩ := List.mem_iff_getElem?.1 hp
      have hjl : j < (q :: ps).length := (List.getElem?_eq_some_iff.1 hj).1
      obtain ⟨a, b⟩ := hq j hjl p hj
      have := hall j a
      omega
    have hge : r ≤ v := by
      have hil : i < (q :: ps).length := by omega
      obtain ⟨p, hp⟩ : ∃ p, (q :: ps)[i]? = some p := ⟨_, List.getElem?_eq_getElem hil⟩
      obtain ⟨a, b⟩ := hq i hil p hp
      rw [hv, b]
      cases i with
      | zero => simp at hp; rw [← hp]; exact h1
      | succ i => exact h2 p (List.mem_of_getElem? (by simpa using hp))
    rcases h3 with h3 | ⟨p, hp, h3⟩
    · have := hle q (by simp)
      omega
    · have := hle p (by simp [hp])
      omega
theorem qput_len {L : List (Int × Int)} {k : Nat} (hk : k ≤ L.length) (y : Int × Int) : (qput L k y).length = max L.length (k + 1) := by
  unfold qput
  split
  · simp; omega
  · simp; omega
theorem QFor.put {L : List (Int × Int)} {ps : List PeerS} {k : Nat} (h : QFor L ps k) (hk : k ≤ L.length) {p : PeerS} (hp : ps[k]? = some p) (s : Int) : QFor (qput L k (p.next, s)) ps (k + 1) := by
  intro i hi q hq
  rw [qput_len hk]
  refine ⟨by omega, ?_⟩
  by_cases e : i = k
  · subst e
    rw [hp] at hq
    cases hq
    unfold qat qput
    split
    · rename_i h2
      simp [List.getD_eq_getElem?_getD, h2]
    · simp [List.getD_eq_getElem?_getD, List.getElem?_set, show i < L.length by omega]
  · obtain ⟨a, b⟩ := h i (by omega) q hq
    unfold qat qput at *
    split
    · rw [← b]
      simp [List.getD_eq_getElem?_getD, List.getElem?_append_left a]
    · rw [← b]
      simp [List.getD_eq_getElem?_getD, List.getElem?_set, show ¬ k = i by omega]
/-- Peer k's wish is noted. -/
theorem DO.note {w : World} {P : DPl} {d : DaemonS} (hd : DO w P d) {L : List (Int × Int)} (hq : QO w P.bq P.bqm L) (hL : L.length = d.ps.length) {k : Nat} {p : PeerS} (hp : d.ps[k]? = some p) (hf : QFor L d.ps k) :
    Calls Tryz.prog 41 #[at0 P.bq, .int .i64 k, .int .i64 p.next] w fun e w' => (∃ r, e = .returned r) ∧ ∃ L', QO w' P.bq P.bqm L' ∧ L'.length = d.ps.length ∧ QFor L' d.ps (k + 1) ∧ DO w' P d ∧ Mod (fun j => j = P.bq ∨ j = P.bqm) w w' := by
  have hlt : k < d.ps.length := (List.getElem?_eq_some_iff.1 hp).1
  obtain ⟨nq, hqb⟩ := hq.blk
  have hne : P.bq ≠ P.bqm := by
    intro e
    have h2 := hq.map
    rw [← e, hqb] at h2
    cases h2
  refine (qset_any P.bq P.bqm L k (by omega) p.next w hq hne).mono ?_
  rintro e w' ⟨hr, ⟨s, hk⟩, hm⟩
  have hlen : (qput L k (p.next, s)).length = d.ps.length := by rw [qput_len (by omega)]; omega
  exact ⟨hr, _, hk, hlen, hf.put (by omega) hp s, hd.queue hm hk hlen, hm⟩
end Go.Proofs.YtpjfiplejhbdfaaGreatDoor

namespace Go.Proofs.YtpjfiplejhbdfaaGreatDoor
set_option linter.unusedSimpArgs false
open Go.RowKit

abbrev tMap : TypeId := 110
/-- The method values. -/
abbrev fTick (b : Nat) : Value := .func (.func 44) #[at0 b] #[]
abbrev fDgram (b : Nat) : Value := .func (.func 45) #[at0 b] #[]
def DoPost (P : DPl) (d : DaemonS) (o : OutS) (err : Int) (w : World) (e : Ending) (w' : World) : Prop :=
  ∃ v P', e = .returned (.tuple #[.agg #[v, .int .i64 o.clock, .int .i64 o.wake, .int .i64 o.reason], .int .i64 err]) ∧ DO w' P' d ∧ DTo P P' w w' ∧ SendsAt w' w.heap.size v o.sends
theorem setO_new {S : Nat → Prop} {a w : World} (h : Mod S a w) {r : Nat} (hr : a.heap.size ≤ r) (o : Obj) : Mod S a (setO w r o) :=
  h.into (setO_mod (w := w) (r := r) o) (fun b (e : b = r) => Or.inr (by omega))
theorem zeroFn (w : World) : (zeroValue 108).run Tryz.prog w = .ok .nilFunc w := by kernel_rfl
/-- The method that is found, and whether one is. -/
def foundF (b : Nat) (k : Int) : Value × Bool := if k = 0 then (fTick b, true) else if k = 1 then (fDgram b, true) else (.nilFunc, false)
/-- The map of methods, made, and a look into it. -/
theorem methods (w2 : World) (b : Nat) (k : Int) : ∃ w3 w4 w5, w2.alloc (.map #[] 0) = w3 ∧ (Instr.mapUpdate tMap (.map (some w2.heap.size)) (.int .i64 0) (fTick b)).run Tryz.prog w3 = .ok () w4 ∧
    (Instr.mapUpdate tMap (.map (some w2.heap.size)) (.int .i64 1) (fDgram b)).run Tryz.prog w4 = .ok () w5 ∧
    (Instr.lookup tMap (.map (some w2.heap.size)) (.int .i64 k) true).run Tryz.prog w5 = .ok (.tuple #[(foundF b k).1, .bool (foundF b k).2]) w5 ∧ Mod NoB w2 w5 ∧ Mod NoB w2 w3 ∧ Mod NoB w2 w4 := by
  have hb3 : (w2.alloc (.map #[] 0)).heap[w2.heap.size]? = some (.map #[] 0) := heap_alloc_new _ _
  have hl3 := lt_of_block hb3
  have h0 := run_two0 (P := Tryz.prog) Tryz.underlying110 Tryz.underlying3 (fTick b) hb3
  have hb4 := setO_same (w := w2.alloc (.map #[] 0)) (.map #[{ key := .int .i64 0, val := fTick b, born := 0 }] 1) hl3
  have hl4 := lt_of_block hb4
  have h1 := run_two1 (P := Tryz.prog) Tryz.underlying110 Tryz.underlying3 (fTick b) (fDgram b) hb4
  have hb5 := setO_same (w := setO (w2.alloc (.map #[] 0)) w2.heap.size (.map #[{ key := .int .i64 0, val := fTick b, born := 0 }] 1)) (.map (two01 (fTick b) (fDgram b)) 2) hl4
  have m3 : Mod NoB w2 (w2.alloc (.map #[] 0)) := (Mod.refl _ _).alloc _
  have m4 := setO_new m3 (r := w2.heap.size) (Nat.le_refl _) (.map #[{ key := .int .i64 0, val := fTick b, born := 0 }] 1)
  refine ⟨_, _, _, rfl, h0, h1, ?_, setO_new m4 (Nat.le_refl _) _, m3, m4⟩
  unfold foundF
  by_cases e0 : k = 0
  · subst e0
    exact run_look0 Tryz.underlying110 Tryz.underlying3 hb5
  · by_cases e1 : k = 1
    · subst e1
      exact run_look1 Tryz.underlying110 Tryz.underlying3 hb5
    · rw [if_neg e0, if_neg e1]
      exact run_look2 Tryz.underlying110 Tryz.underlying3 zeroFn k e0 e1 hb5
set_option maxRecDepth 100000 in
set_option maxHeartbeats 8000000 in
theorem do_err (P : DPl) (d : DaemonS) (hok : d.Ok) (k h a : Int) (hk : I64 k) (hh : I64 h) (draw : Nat) (p : Option Addr) (n c : Nat) (l : List Nat) (w : World) (hd : DO w P d) (he : errS d ⟨k, h, a, draw, l⟩ ≠ 0) :
    Calls Tryz.prog 14 #[at0 P.b, evV k h a draw (.slice p n c)] w (DoPost P d out0 (errS d ⟨k, h, a, draw, l⟩) w) := by
  have hmm := @run_makeMap Tryz.prog
  have hmf : ∀ (fn : Fn) (first cap : Array Value) (w : World), (Instr.makeFunc fn first cap).run Tryz.prog w = .ok (.func fn first cap) w := fun _ _ _ _ => rfl
  have k12 := cell_of_block hd.blk 12 (v := .int .i64 d.h) rfl
  have hlb := lt_of_block hd.blk
  obtain ⟨err, herr⟩ : ∃ err, errS d ⟨k, h, a, draw, l⟩ = err := ⟨_, rfl⟩
  rw [herr] at he ⊢
  obtain ⟨w2, hw2⟩ : ∃ w2, (w.alloc (.cells #[.int .i64 k, .int .i64 h, .int .i64 a, .int .u64 (draw : Int), .slice p n c] 38)).alloc (.cells #[.slice none 0 0, .int .i64 0, .int .i64 0, .int .i64 0] 44) = w2 := ⟨_, rfl⟩
  have hm2 : Mod NoB w w2 := by rw [← hw2]; exact ((Mod.refl _ _).alloc _).alloc _
  have he2 : w2.heap[w.heap.size]? = some (.cells #[.int .i64 k, .int .i64 h, .int .i64 a, .int .u64 (draw : Int), .slice p n c] 38 (0, 0)) := by
    rw [← hw2]
    exact (heap_alloc_old (by simp) _).trans (heap_alloc_new w _)
  have ho2 : w2.heap[w.heap.size + 1]? = some (.cells #[.slice none 0 0, .int .i64 0, .int .i64 0, .int .i64 0] 44 (0, 0)) := by
    have := heap_alloc_new (w.alloc (.cells #[.int .i64 k, .int .i64 h, .int .i64 a, .int .u64 (draw : Int), .slice p n c] 38)) (.cells #[.slice none 0 0, .int .i64 0, .int .i64 0, .int .i64 0] 44)
    rw [World.size_alloc, hw2] at this
    exact this
  have hs2 : w2.heap.size = w.heap.size + 2 := by rw [← hw2]; simp
  replace hd := hide hd
  replace hm2 := hide hm2
  replace he2 := hide he2
  replace ho2 := hide ho2
  replace hs2 := hide hs2
  replace hok := hide hok
  replace herr := hide herr
  replace he := hide he
  go_enter Tryz.func14, Tryz.ntmps14
  go_upto_region 3 with (fail)
  obtain ⟨w3, w4, w5, hw3, hi0, hi1, hlk, hm5, hm3, hm4⟩ := methods w2 P.b k
  have e0 := hm3.cellAt id (cell_of_block he2.out 0 (v := .int .i64 k) rfl)
  have e0' := hm4.cellAt id (cell_of_block he2.out 0 (v := .int .i64 k) rfl)
  have he5 := hide (hm5.heap he2.out id)
  have ho5 := hide (hm5.heap ho2.out id)
  have e05 := cell_of_block he5.out 0 (v := .int .i64 k) rfl
  have e15 := cell_of_block he5.out 1 (v := .int .i64 h) rfl
  have hd5 := hide (hd.out.quiet (hm2.out.trans hm5))
  have hmw5 := hide (hm2.out.trans hm5)
  have hsz5 := hm5.size
  obtain ⟨fv, ok, hfk⟩ : ∃ fv ok, foundF P.b k = (fv, ok) := ⟨_, _, rfl⟩
  rw [hfk] at hlk
  replace hfk := hide hfk
  clear hm3 hm4 hm5 he2 ho2 k12
  go_upto_region 4 with (fail)
  by_cases hkk : k = 0 ∨ k = 1
  · have hok2 : ok = true := by
      have := hfk.out
      unfold foundF at this
      rcases hkk with e | e
      · rw [if_pos e] at this; cases this; rfl
      · rw [e] at this; cases this; rfl
    subst hok2
    by_cases hr : h < 0 ∨ 4611686018427387903 < h
    · have he3 : err = 3 := by
        rw [← herr.out]
        unfold errS maxHard
        rw [if_neg (by show ¬ (k ≠ 0 ∧ k ≠ 1); omega), if_pos (by exact hr)]
      subst he3
      by_cases h0 : h < 0
      · clear hr
        replace hkk := hide hkk
        obtain ⟨x0, x1, x2, x3, f0, f1, f2, f3⟩ := four_of ho5.out
        have hms := Mod.set4x (S := (· = w.heap.size + 1)) (Mod.refl _ w5) (Or.inl rfl) (.slice none 0 0) (.int .i64 0) (.int .i64 0) (.int .i64 0)
        have hof := set4_heap ho5.out (.slice none 0 0) (.int .i64 0) (.int .i64 0) (.int .i64 0)
        unfold set4 at hof
        have hlw := hd.out.lt
        have hdl := hd5.out.apart hms (fun x hx hf => by have := hlw x hf; omega)
        have htl := (DTo.quiet (P := P) hmw5.out).own hms (fun x hx => by omega)
        obtain ⟨wl, hwl⟩ : ∃ wl, ((((w5.setCell ⟨w.heap.size + 1, 0, none⟩ (.slice none 0 0)).setCell ⟨w.heap.size + 1, 1, none⟩ (.int .i64 0)).setCell ⟨w.heap.size + 1, 2, none⟩ (.int .i64 0)).setCell ⟨w.heap.size + 1, 3, none⟩ (.int .i64 0)) = wl := ⟨_, rfl⟩
        rw [hwl] at hof hdl htl
        replace hof := hide hof
        replace hdl := hide hdl
        replace htl := hide htl
        clear hms hlw
        go_wp2_with fail
        obtain ⟨y0, y1, y2, y3, -⟩ := four_of hof.out
        exact bodyPost_ret (v := .tuple #[.agg #[.slice none 0 0, .int .i64 0, .int .i64 0, .int .i64 0], .int .i64 3]) (by simp [results, Tryz.results14, go_sem, y0, y1, y2, y3]) rfl ⟨_, P, rfl, hdl.out, htl.out, .nil _ _⟩
      · have h1 : 4611686018427387903 < h := by omega
        clear hr
        replace hkk := hide hkk
        obtain ⟨x0, x1, x2, x3, f0, f1, f2, f3⟩ := four_of ho5.out
        have hms := Mod.set4x (S := (· = w.heap.size + 1)) (Mod.refl _ w5) (Or.inl rfl) (.slice none 0 0) (.int .i64 0) (.int .i64 0) (.int .i64 0)
        have hof := set4_heap ho5.out (.slice none 0 0) (.int .i64 0) (.int .i64 0) (.int .i64 0)
        unfold set4 at hof
        have hlw := hd.out.lt
        have hdl := hd5.out.apart hms (fun x hx hf => by have := hlw x hf; omega)
        have htl := (DTo.quiet (P := P) hmw5.out).own hms (fun x hx => by omega)
        obtain ⟨wl, hwl⟩ : ∃ wl, ((((w5.setCell ⟨w.heap.size + 1, 0, none⟩ (.slice none 0 0)).setCell ⟨w.heap.size + 1, 1, none⟩ (.int .i64 0)).setCell ⟨w.heap.size + 1, 2, none⟩ (.int .i64 0)).setCell ⟨w.heap.size + 1, 3, none⟩ (.int .i64 0)) = wl := ⟨_, rfl⟩
        rw [hwl] at hof hdl htl
        replace hof := hide hof
        replace hdl := hide hdl
        replace htl := hide htl
        clear hms hlw
        go_wp2_with fail
        obtain ⟨y0, y1, y2, y3, -⟩ := four_of hof.out
        exact bodyPost_ret (v := .tuple #[.agg #[.slice none 0 0, .int .i64 0, .int .i64 0, .int .i64 0], .int .i64 3]) (by simp [results, Tryz.results14, go_sem, y0, y1, y2, y3]) rfl ⟨_, P, rfl, hdl.out, htl.out, .nil _ _⟩
    · have h0 : 0 ≤ h := by omega
      have h1 : h ≤ 4611686018427387903 := by omega
      have hlt : h < d.h := by
        refine Decidable.byContradiction fun hge => he.out ?_
        rw [← herr.out]
        unfold errS maxHard
        rw [if_neg (by show ¬ (k ≠ 0 ∧ k ≠ 1); omega), if_neg (by show ¬ (h < 0 ∨ _ < h); omega), if_neg (by exact hge)]
      have he8 : err = 8 := by
        rw [← herr.out]
        unfold errS maxHard
        rw [if_neg (by show ¬ (k ≠ 0 ∧ k ≠ 1); omega), if_neg (by show ¬ (h < 0 ∨ _ < h); omega), if_pos (by exact hlt)]
      subst he8
      have k12 := cell_of_block hd5.out.blk 12 (v := .int .i64 d.h) rfl
      clear hr
      replace hkk := hide hkk
      go_wp2_with fail
      go_quiet (fail)
      have hmd : Mod NoB w5 (w5.drewN nq) := (Mod.refl _ _).drewN _
      replace hmw5 := hide (hmw5.out.trans hmd)
      replace hd5 := hide (hd5.out.quiet hmd)
      replace ho5 := hide (hmd.heap ho5.out id)
      clear hmd k12 e05 e15 e0 e0' he5
      generalize w5.drewN nq = w6 at *
      obtain ⟨x0, x1, x2, x3, f0, f1, f2, f3⟩ := four_of ho5.out
      have hms := Mod.set4x (S := (· = w.heap.size + 1)) (Mod.refl _ w6) (Or.inl rfl) (.slice none 0 0) (.int .i64 0) (.int .i64 0) (.int .i64 0)
      have hof := set4_heap ho5.out (.slice none 0 0) (.int .i64 0) (.int .i64 0) (.int .i64 0)
      unfold set4 at hof
      have hlw := hd.out.lt
      have hdl := hd5.out.apart hms (fun x hx hf => by have := hlw x hf; omega)
      have htl := (DTo.quiet (P := P) hmw5.out).own hms (fun x hx => by omega)
      obtain ⟨wl, hwl⟩ : ∃ wl, ((((w6.setCell ⟨w.heap.size + 1, 0, none⟩ (.slice none 0 0)).setCell ⟨w.heap.size + 1, 1, none⟩ (.int .i64 0)).setCell ⟨w.heap.size + 1, 2, none⟩ (.int .i64 0)).setCell ⟨w.heap.size + 1, 3, none⟩ (.int .i64 0)) = wl := ⟨_, rfl⟩
      rw [hwl] at hof hdl htl
      replace hof := hide hof
      replace hdl := hide hdl
      replace htl := hide htl
      clear hms hlw
      go_wp2_with fail
      obtain ⟨y0, y1, y2, y3, -⟩ := four_of hof.out
      exact bodyPost_ret (v := .tuple #[.agg #[.slice none 0 0, .int .i64 0, .int .i64 0, .int .i64 0], .int .i64 8]) (by simp [results, Tryz.results14, go_sem, y0, y1, y2, y3]) rfl ⟨_, P, rfl, hdl.out, htl.out, .nil _ _⟩
  · have hok2 : ok = false := by
      have := hfk.out
      unfold foundF at this
      rw [if_neg (by omega), if_neg (by omega)] at this
      cases this
      rfl
    subst hok2
    have he10 : err = 10 := by
      rw [← herr.out]
      unfold errS
      rw [if_pos (by show k ≠ 0 ∧ k ≠ 1; omega)]
    subst he10
    replace hkk := hide hkk
    obtain ⟨x0, x1, x2, x3, f0, f1, f2, f3⟩ := four_of ho5.out
    have hms := Mod.set4x (S := (· = w.heap.size + 1)) (Mod.refl _ w5) (Or.inl rfl) (.slice none 0 0) (.int .i64 0) (.int .i64 0) (.int .i64 0)
    have hof := set4_heap ho5.out (.slice none 0 0) (.int .i64 0) (.int .i64 0) (.int .i64 0)
    unfold set4 at hof
    have hlw := hd.out.lt
    have hdl := hd5.out.apart hms (fun x hx hf => by have := hlw x hf; omega)
    have htl := (DTo.quiet (P := P) hmw5.out).own hms (fun x hx => by omega)
    obtain ⟨wl, hwl⟩ : ∃ wl, ((((w5.setCell ⟨w.heap.size + 1, 0, none⟩ (.slice none 0 0)).setCell ⟨w.heap.size + 1, 1, none⟩ (.int .i64 0)).setCell ⟨w.heap.size + 1, 2, none⟩ (.int .i64 0)).setCell ⟨w.heap.size + 1, 3, none⟩ (.int .i64 0)) = wl := ⟨_, rfl⟩
    rw [hwl] at hof hdl htl
    replace hof := hide hof
    replace hdl := hide hdl
    replace htl := hide htl
    clear hms hlw
    go_wp2_with fail
    obtain ⟨y0, y1, y2, y3, -⟩ := four_of hof.out
    exact bodyPost_ret (v := .tuple #[.agg #[.slice none 0 0, .int .i64 0, .int .i64 0, .int .i64 0], .int .i64 10]) (by simp [results, Tryz.results14, go_sem, y0, y1, y2, y3]) rfl ⟨_, P, rfl, hdl.out, htl.out, .nil _ _⟩
end Go.Proofs.YtpjfiplejhbdfaaGreatDoor

