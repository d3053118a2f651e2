/- Maps with ints as keys, by what they tell of each. The document's line of a config (chapter 6), walked. Drawn regions that only read, and hold one call that makes memory, by what is listed: all values known ahead but the call's. -/
import Derived.Test.YtpjfiplejhbdfaaGreatDoorPUba
import Derived.Test.YtpjfiplejhbdfaaGreatDoorPUbc
import Derived.Test.YtpjfiplejhbdfaaGreatDoorPUaf
import Derived.Test.YtpjfiplejhbdfaaGreatDoorPUad
namespace Go.Proofs.YtpjfiplejhbdfaaGreatDoor
open Go.RowKit Go.MapKept

variable {P : Program} {t kt et : TypeId}
/-- A map tells of each int what f tells. -/
def MapF (w : World) (r : Nat) (f : Int → Option Value) : Prop :=
  ∃ es c, w.heap[r]? = some (.map es c) ∧ Stamped es c ∧ (∀ x ∈ es.toList, IsKey (.int .i64) x.key) ∧ ∀ k v, f k = some v ↔ ∃ x ∈ es.toList, x.key = .int .i64 k ∧ x.val = v
theorem MapF.new {w : World} {r : Nat} (h : w.heap[r]? = some (.map #[] 0)) : MapF w r (fun _ => none) :=
  ⟨_, _, h, stamped_empty 0, fun x hx => by simp at hx, fun k v => by simp⟩
theorem MapF.heap {w w' : World} {r : Nat} {f : Int → Option Value} (h : MapF w r f) (hh : ∀ o, w.heap[r]? = some o → w'.heap[r]? = some o) : MapF w' r f :=
  let ⟨es, c, h1, h2⟩ := h
  ⟨es, c, hh _ h1, h2⟩
theorem MapF.quiet {w w' : World} {r : Nat} {f : Int → Option Value} (h : MapF w r f) (hm : Mod NoB w w') : MapF w' r f := h.heap (fun _ ho => hm.heap ho id)
theorem MapF.mod {S : Nat → Prop} {w w' : World} {r : Nat} {f : Int → Option Value} (h : MapF w r f) (hm : Mod S w w') (hr : ¬ S r) : MapF w' r f := h.heap (fun _ ho => hm.heap ho hr)
theorem MapF.lt {w : World} {r : Nat} {f : Int → Option Value} (h : MapF w r f) : r < w.heap.size := by
  obtain ⟨es, c, h1, _⟩ := h
  rcases Nat.lt_or_ge r w.heap.size with h | h
  · exact h
  · rw [Array.getElem?_eq_none h] at h1; cases h1
theorem MapF.find {w : World} {r : Nat} {f : Int → Option Value} (h : MapF w r f) (k : Int) :
    ∃ es c, w.heap[r]? = some (.map es c) ∧ ((f k = none ∧ Instr.findNow (.int .i64) (.int .i64 k) es.toList 0 = some none) ∨ ∃ v j, f k = some v ∧ Instr.findNow (.int .i64) (.int .i64 k) es.toList 0 = some (some (j, v))) := by
  obtain ⟨es, c, h1, h2, h3, h4⟩ := h
  refine ⟨es, c, h1, ?_⟩
  rcases findNow_spec (d := .int .i64) (k := .int .i64 k) rfl es.toList 0 h3 with ⟨a, b⟩ | ⟨j, e, a, b, d⟩
  · refine Or.inl ⟨?_, a⟩
    cases hf : f k with
    | none => rfl
    | some v =>
      obtain ⟨x, hx, hk, _⟩ := (h4 k v).1 hf
      exact absurd hk (b x hx)
  · exact Or.inr ⟨e.val, _, (h4 k e.val).2 ⟨e, List.mem_of_getElem? b, d, rfl⟩, a⟩
theorem MapF.look {w : World} {r : Nat} {f : Int → Option Value} (h : MapF w r f) (ht : P.underlying t = some (.map kt et)) (hkt : P.underlying kt = some (.int .i64)) {z : Value} (hz : ∀ w, (zeroValue et).run P w = .ok z w) (k : Int) :
    (Instr.lookup t (.map (some r)) (.int .i64 k) true).run P w = .ok (.tuple #[(f k).getD z, .bool (f k).isSome]) w := by
  obtain ⟨es, c, hb, hc⟩ := h.find k
  have hk : IsKey (.int .i64) (.int .i64 k) := rfl
  have hck : ∀ e, (Instr.checkKey e 10000 kt (.int .i64 k)).run P w = .ok () w := fun e => Go.MapKept.run_checkKey hkt hk e 9999
  rcases hc with ⟨h1, hf⟩ | ⟨v, j, h1, hf⟩
  · unfold Instr.lookup
    simp [run_underlying ht, Go.MapKept.run_getObj_map hb, hck, run_findKey hkt hf, go_sem, hz, h1]
  · unfold Instr.lookup
    simp [run_underlying ht, Go.MapKept.run_getObj_map hb, hck, run_findKey hkt hf, go_sem, h1]
theorem MapF.look1 {w : World} {r : Nat} {f : Int → Option Value} (h : MapF w r f) (ht : P.underlying t = some (.map kt et)) (hkt : P.underlying kt = some (.int .i64)) {z : Value} (hz : ∀ w, (zeroValue et).run P w = .ok z w) (k : Int) :
    (Instr.lookup t (.map (some r)) (.int .i64 k) false).run P w = .ok ((f k).getD z) w := by
  obtain ⟨es, c, hb, hc⟩ := h.find k
  have hk : IsKey (.int .i64) (.int .i64 k) := rfl
  have hck : ∀ e, (Instr.checkKey e 10000 kt (.int .i64 k)).run P w = .ok () w := fun e => Go.MapKept.run_checkKey hkt hk e 9999
  rcases hc with ⟨h1, hf⟩ | ⟨v, j, h1, hf⟩
  · unfold Instr.lookup
    simp [run_underlying ht, Go.MapKept.run_getObj_map hb, hck, run_findKey hkt hf, go_sem, hz, h1]
  · unfold Instr.lookup
    simp [run_underlying ht, Go.MapKept.run_getObj_map hb, hck, run_findKey hkt hf, go_sem, h1]
/-- f, with one value put. -/
def putM (f : Int → Option Value) (k : Int) (v : Value) : Int → Option Value := fun a => if a = k then some v else f a
theorem MapF.put {w : World} {r : Nat} {f : Int → Option Value} (h : MapF w r f) (ht : P.underlying t = some (.map kt et)) (hkt : P.underlying kt = some (.int .i64)) (k : Int) (v : Value) :
    ∃ o, (Instr.mapUpdate t (.map (some r)) (.int .i64 k) v).run P w = .ok () (setO w r o) ∧ MapF (setO w r o) r (putM f k v) := by
  have hlt := h.lt
  obtain ⟨es, c, hb, hs, hkeys, hf⟩ := h
  have hk : IsKey (.int .i64) (.int .i64 k) := rfl
  have hck : ∀ e, (Instr.checkKey e 10000 kt (.int .i64 k)).run P w = .ok () w := fun e => Go.MapKept.run_checkKey hkt hk e 9999
  rcases findNow_spec hk es.toList 0 hkeys with ⟨h1, h2⟩ | ⟨j, e, h1, h2, h3⟩
  · refine ⟨.map (es.push { key := .int .i64 k, val := v, born := c }) (c + 1), run_insI ht hkt k v hb hkeys h2, _, _, setO_same _ hlt, stamped_push hs h2, fun x hx => ?_, fun a u => ?_⟩
    · simp only [Array.toList_push, List.mem_append, List.mem_singleton] at hx
      rcases hx with hx | rfl
      · exact hkeys x hx
      · exact hk
    · simp only [Array.toList_push, List.mem_append, List.mem_singleton, putM]
      by_cases ha : a = k
      · subst ha
        rw [if_pos rfl]
        constructor
        · intro hu
          cases hu
          exact ⟨_, Or.inr rfl, rfl, rfl⟩
        · rintro ⟨x, hx | rfl, hxk, hxv⟩
          · exact absurd hxk (h2 x hx)
          · rw [← hxv]
      · rw [if_neg ha, hf]
        constructor
        · rintro ⟨x, hx, hxk⟩
          exact ⟨x, Or.inl hx, hxk⟩
        · rintro ⟨x, hx | rfl, hxk, hxv⟩
          · exact ⟨x, hx, hxk, hxv⟩
          · exact absurd (Value.int.inj hxk).2.symm ha
  · have hj : es[j]? = some e := by simpa using h2
    obtain ⟨g, hg⟩ : ∃ g : MapEntry → MapEntry, (fun e : MapEntry => ({ key := .int .i64 k, val := v, born := e.born } : MapEntry)) = g := ⟨_, rfl⟩
    have hrun : (Instr.mapUpdate t (.map (some r)) (.int .i64 k) v).run P w = .ok () (setO w r (.map (es.modify j g) c)) := by
      have hge : (Option.map (fun x => x.key) es[j]?).getD (.int .i64 k) = .int .i64 k := by rw [hj]; exact h3
      have hsb : Instr.sameBits 10000 (.int .i64 k) (.int .i64 k) = true := by simp [Instr.sameBits]
      unfold Instr.mapUpdate
      simp [run_underlying ht, Go.MapKept.run_getObj_map hb, Go.MapKept.run_setObj_map _ hb, hck, run_findKey hkt h1, go_sem, hj, h3, Instr.keyThatStays, hsb, ← hg]
      rfl
    have hat : ∀ i x, (es.modify j g).toList[i]? = some x ↔ if i = j then x = g e else es.toList[i]? = some x := by
      intro i x
      rw [Array.getElem?_toList, Array.getElem?_modify]
      by_cases hi : j = i
      · subst hi
        rw [if_pos rfl, if_pos rfl, hj]
        simp [eq_comm]
      · rw [if_neg hi, if_neg (fun x => hi x.symm), Array.getElem?_toList]
    have hkey : ∀ e', es[j]? = some e' → (g e').key = e'.key := fun e' he' => by rw [hj] at he'; cases he'; rw [← hg]; exact h3.symm
    have hgk : (g e).key = .int .i64 k ∧ (g e).val = v := by rw [← hg]; exact ⟨rfl, rfl⟩
    refine ⟨_, hrun, _, _, setO_same _ hlt, stamped_modify hs _ _ (fun _ _ => by rw [← hg]) (fun e' _ he' => hkey e' he'), isKey_modify hkeys _ _ hkey, fun a u => ?_⟩
    have huniq : ∀ i x, es.toList[i]? = some x → x.key = .int .i64 k → i = j := by
      intro i x hx hxk
      have hn := hs.2.2
      obtain ⟨hi, ei⟩ := List.getElem?_eq_some_iff.1 hx
      obtain ⟨hjl, ej⟩ := List.getElem?_eq_some_iff.1 h2
      rcases Nat.lt_trichotomy i j with h | h | h
      · have := List.pairwise_iff_getElem.1 hn i j (by simpa using hi) (by simpa using hjl) h
        simp only [List.getElem_map, ei, ej, hxk, h3] at this
        exact absurd rfl this
      · exact h
      · have := List.pairwise_iff_getElem.1 hn j i (by simpa using hjl) (by simpa using hi) h
        simp only [List.getElem_map, ei, ej, hxk, h3] at this
        exact absurd rfl this
    unfold putM
    by_cases ha : a = k
    · subst ha
      rw [if_pos rfl]
      constructor
      · intro hu
        cases hu
        exact ⟨g e, List.mem_of_getElem? ((hat j (g e)).2 (by rw [if_pos rfl])), hgk.1, hgk.2⟩
      · rintro ⟨x, hx, hxk, hxv⟩
        obtain ⟨i, hi⟩ := List.mem_iff_getElem?.1 hx
        have := (hat i x).1 hi
        by_cases hij : i = j
        · rw [if_pos hij] at this
          rw [this, hgk.2] at hxv
          rw [hxv]
        · rw [if_neg hij] at this
          exact absurd (huniq i x this hxk) hij
    · rw [if_neg ha, hf]
      constructor
      · rintro ⟨x, hx, hxk, hxv⟩
        obtain ⟨i, hi⟩ := List.mem_iff_getElem?.1 hx
        have hij : i ≠ j := by
          intro hij
          subst hij
          rw [h2] at hi
          cases hi
          rw [h3] at hxk
          exact ha (Value.int.inj hxk).2.symm
        exact ⟨x, List.mem_of_getElem? ((hat i x).2 (by rw [if_neg hij]; exact hi)), hxk, hxv⟩
      · rintro ⟨x, hx, hxk, hxv⟩
        obtain ⟨i, hi⟩ := List.mem_iff_getElem?.1 hx
        have := (hat i x).1 hi
        by_cases hij : i = j
        · rw [if_pos hij] at this
          rw [this, hgk.1] at hxk
          exact absurd (Value.int.inj hxk).2.symm ha
        · rw [if_neg hij] at this
          exact ⟨x, List.mem_of_getElem? this, hxk, hxv⟩
end Go.Proofs.YtpjfiplejhbdfaaGreatDoor

namespace Go.Proofs.YtpjfiplejhbdfaaGreatDoor
open Go.RowKit

def seenV (s : Nat → Bool) : Array Value := #[.bool (s 0), .bool (s 1), .bool (s 2), .bool (s 3), .bool (s 4)]
/-- What the document's line works on. -/
structure RS (base bc bn : Nat) (st : St) (w : World) : Prop where
  cfg : CfgAt base bc st.1 w
  seen : w.heap[bn]? = some (.cells (seenV st.2) 142 (0, 0))
  low : bc < base ∧ bn < base
  size : base ≤ w.heap.size
theorem RS.ne {base bc bn : Nat} {st : St} {w : World} (h : RS base bc bn st w) : bc ≠ bn := by
  obtain ⟨v, h1, _⟩ := h.cfg
  rintro rfl
  have := h.seen
  rw [h1] at this
  simp [seenV] at this
theorem RS.keep {base bc bn : Nat} {st : St} {w w' : World} (h : RS base bc bn st w) (hm : Mod NoB w w') : RS base bc bn st w' :=
  ⟨let ⟨v, h1, h2⟩ := h.cfg; ⟨v, hm.heap h1 id, ownsRow_mod h2 hm (fun _ f => f.elim)⟩, hm.heap h.seen id, h.low, Nat.le_trans h.size hm.size⟩

end Go.Proofs.YtpjfiplejhbdfaaGreatDoor

namespace Go.Proofs.YtpjfiplejhbdfaaGreatDoor
set_option linter.unusedVariables false
open Go.RowKit

structure InvC (ds : List Nat) (vs : List Value) (ci : Nat) (R : World → Value → Prop) (W0 : World) (L : Nat → Bool) (z : Nat → Value) (w : World) : Prop where
  m : Mod NoB W0 w
  v : ∀ i, i < ds.length → i ≠ ci → L i = true → z (ds.getD i 0) = vs.getD i undef
  r : L ci = true → R w (z (ds.getD ci 0))
variable {ds : List Nat} {vs : List Value} {ci : Nat} {R : World → Value → Prop} {W0 : World} {L : Nat → Bool} {z : Nat → Value} {w : World}
theorem InvC.start (h : ∀ q, L q = false) {w : World} (hm : Mod NoB W0 w) : InvC ds vs ci R W0 L z w :=
  ⟨hm, fun i _ _ e => (by rw [h] at e; cases e), fun e => (by rw [h] at e; cases e)⟩
theorem getD_inj {ds : List Nat} (hn : ds.Nodup) {i j : Nat} (hi : i < ds.length) (hj : j < ds.length) (h : i ≠ j) : ds.getD i 0 ≠ ds.getD j 0 := by
  intro e3
  have a : ds.getD j 0 = ds[j] := by simp [List.getD, hj]
  have b : ds.getD i 0 = ds[i] := by simp [List.getD, hi]
  rw [a, b] at e3
  rcases Nat.lt_trichotomy j i with k | k | k
  · exact List.pairwise_iff_getElem.1 hn j i hj hi k e3.symm
  · exact h k.symm
  · exact List.pairwise_iff_getElem.1 hn i j hi hj k e3
theorem InvC.put (h : InvC ds vs ci R W0 L z w) {i d : Nat} {v : Value} (hi : i < ds.length) (h1 : i ≠ ci) (hc : ci < ds.length) (hn : ds.Nodup) (hd : ds.getD i 0 = d) (hv : vs.getD i undef = v) : InvC ds vs ci R W0 (upd L i true) (upd z d v) w := by
  refine ⟨h.m, fun j hj j1 hL => ?_, fun hL => ?_⟩
  · by_cases e : j = i
    · subst e
      rw [hd, upd_same, hv]
    · rw [upd_ne _ _ e] at hL
      rw [upd_ne]
      · exact h.v j hj j1 hL
      · rw [← hd]
        exact getD_inj hn hj hi e
  · rw [upd_ne _ _ (Ne.symm h1)] at hL
    rw [upd_ne]
    · exact h.r hL
    · rw [← hd]
      exact getD_inj hn hc hi (Ne.symm h1)
theorem InvC.call (h : InvC ds vs ci R W0 L z w) {w' : World} {v : Value} {d : Nat} (hc : ci < ds.length) (hn : ds.Nodup) (hd : ds.getD ci 0 = d) (hm : Mod NoB w w') (hr : R w' v) : InvC ds vs ci R W0 (upd L ci true) (upd z d v) w' := by
  refine ⟨h.m.trans hm, fun j hj j1 hL => ?_, fun _ => ?_⟩
  · rw [upd_ne _ _ j1] at hL
    rw [upd_ne]
    · exact h.v j hj j1 hL
    · rw [← hd]
      exact getD_inj hn hj hc j1
  · rw [hd, upd_same]
    exact hr
/-- A frame whose slots ds are z's. -/
def putsZ (a : Act) (ds : List Nat) (z : Nat → Value) : Act := { tmps := ds.foldl (fun t d => t.setIfInBounds d (z d)) a.tmps, defers := a.defers }
theorem puts_get (z : Nat → Value) : ∀ (ds : List Nat) (t : Array Value) (i : Nat), (ds.foldl (fun t d => t.setIfInBounds d (z d)) t)[i]? = if i ∈ ds ∧ i < t.size then some (z i) else t[i]? := by
  intro ds
  induction ds with
  | nil => intro t i; simp
  | cons d ds ih =>
    intro t i
    rw [List.foldl_cons, ih, Array.size_setIfInBounds, Array.getElem?_setIfInBounds]
    by_cases hi : i < t.size
    · by_cases h1 : i ∈ ds
      · simp [h1, hi]
      · by_cases h2 : d = i
        · subst h2
          simp [h1, hi]
        · have : i ∉ d :: ds := by simp [h1, Ne.symm h2]
          simp [h1, h2, this]
    · by_cases h2 : d = i
      · subst h2
        simp [hi]
      · simp [hi, h2]
theorem frame_of {fr : (Nat → Value) → (Nat → Value) → Act} {n : Nat} {ds : List Nat} (hfr : ∀ V z, fr V z = { tmps := ((List.range n).map fun k => if k ∈ ds then z k else V k).toArray, defers := [] }) (a : Act) (h1 : a.tmps.size = n) (h2 : a.defers = []) (V : Nat → Value) (hV : ∀ k, V k = a.tmps.getD k undef) (z : Nat → Value) :
    fr V z = putsZ a ds z := by
  rw [hfr]
  obtain ⟨t, d⟩ := a
  simp only at h1 h2 hV
  subst h2
  unfold putsZ
  congr 1
  apply Array.ext_getElem?
  intro i
  rw [puts_get, List.getElem?_toArray, List.getElem?_map]
  by_cases hi : i < n
  · rw [List.getElem?_range hi]
    simp only [Option.map_some]
    by_cases hd : i ∈ ds
    · simp [hd, h1, hi]
    · have : t[i]? = some (t.getD i undef) := by simp [Array.getD, h1, hi]
      rw [if_neg hd, if_neg (fun x => hd x.1), hV, this]
  · have h3 : (List.range n)[i]? = none := by simp; omega
    have h4 : t[i]? = none := Array.getElem?_eq_none (by omega)
    simp [h1, hi]
theorem puts_self (a : Act) (ds : List Nat) : putsZ a ds (fun k => a.tmps.getD k undef) = a := by
  obtain ⟨t, d⟩ := a
  unfold putsZ
  congr 1
  apply Array.ext_getElem?
  intro i
  rw [puts_get]
  by_cases h : i ∈ ds ∧ i < t.size
  · rw [if_pos h]
    simp [Array.getD, h.2]
  · rw [if_neg h]
/-- A frame told by its slots. -/
theorem wp_frame {P : Program} {c : Code} {Q : Exit → Act → World → Prop} {w : World} (fr : (Nat → Value) → (Nat → Value) → Act) (n : Nat) (ds : List Nat) (hfr : ∀ V z, fr V z = { tmps := ((List.range n).map fun k => if k ∈ ds then z k else V k).toArray, defers := [] })
    (a : Act) (h1 : a.tmps.size = n) (h2 : a.defers = []) (h : ∀ V : Nat → Value, Hid (∀ k, V k = a.tmps.getD k undef) → Hid (∀ z, fr V z = putsZ a ds z) → c.wp P Q (fr V V) w) : c.wp P Q a w := by
  have hz := frame_of hfr a h1 h2 (fun k => a.tmps.getD k undef) (fun _ => rfl)
  have := h (fun k => a.tmps.getD k undef) (fun _ => rfl) hz
  rwa [hz, puts_self] at this
end Go.Proofs.YtpjfiplejhbdfaaGreatDoor

