/- Maps with ints as keys, by what they tell of each. The document's line of a config (chapter 6), walked. -/
import Derived.Test.YtjlilmonpklghaaGreatDoorPUba
import Derived.Test.YtjlilmonpklghaaGreatDoorPUbc
namespace Go.Proofs.YtjlilmonpklghaaGreatDoor
open Go.RowKit Go.MapKept

variable {P : Program} {t kt et : TypeId}
/-- A map tells of each int what f tells. -/
def MapF (w : World) (r : Nat) (f : Int → Option Value) : Prop :=
  ∃ es c, w.heap[r]? = some (.map es c) ∧ Stamped es c ∧ (∀ x ∈ es.toList, IsKey (.int .i64) x.key) ∧ ∀ k v, f k = some v ↔ ∃ x ∈ es.toList, x.key = .int .i64 k ∧ x.val = v
theorem MapF.new {w : World} {r : Nat} (h : w.heap[r]? = some (.map #[] 0)) : MapF w r (fun _ => none) :=
  ⟨_, _, h, stamped_empty 0, fun x hx => by simp at hx, fun k v => by simp⟩
theorem MapF.heap {w w' : World} {r : Nat} {f : Int → Option Value} (h : MapF w r f) (hh : ∀ o, w.heap[r]? = some o → w'.heap[r]? = some o) : MapF w' r f :=
  let ⟨es, c, h1, h2⟩ := h
  ⟨es, c, hh _ h1, h2⟩
theorem MapF.quiet {w w' : World} {r : Nat} {f : Int → Option Value} (h : MapF w r f) (hm : Mod NoB w w') : MapF w' r f := h.heap (fun _ ho => hm.heap ho id)
theorem MapF.mod {S : Nat → Prop} {w w' : World} {r : Nat} {f : Int → Option Value} (h : MapF w r f) (hm : Mod S w w') (hr : ¬ S r) : MapF w' r f := h.heap (fun _ ho => hm.heap ho hr)
theorem MapF.lt {w : World} {r : Nat} {f : Int → Option Value} (h : MapF w r f) : r < w.heap.size := by
  obtain ⟨es, c, h1, _⟩ := h
  rcases Nat.lt_or_ge r w.heap.size with h | h
  · exact h
  · rw [Array.getElem?_eq_none h] at h1; cases h1
theorem MapF.find {w : World} {r : Nat} {f : Int → Option Value} (h : MapF w r f) (k : Int) :
    ∃ es c, w.heap[r]? = some (.map es c) ∧ ((f k = none ∧ Instr.findNow (.int .i64) (.int .i64 k) es.toList 0 = some none) ∨ ∃ v j, f k = some v ∧ Instr.findNow (.int .i64) (.int .i64 k) es.toList 0 = some (some (j, v))) := by
  obtain ⟨es, c, h1, h2, h3, h4⟩ := h
  refine ⟨es, c, h1, ?_⟩
  rcases findNow_spec (d := .int .i64) (k := .int .i64 k) rfl es.toList 0 h3 with ⟨a, b⟩ | ⟨j, e, a, b, d⟩
  · refine Or.inl ⟨?_, a⟩
    cases hf : f k with
    | none => rfl
    | some v =>
      obtain ⟨x, hx, hk, _⟩ := (h4 k v).1 hf
      exact absurd hk (b x hx)
  · exact Or.inr ⟨e.val, _, (h4 k e.val).2 ⟨e, List.mem_of_getElem? b, d, rfl⟩, a⟩
theorem MapF.look {w : World} {r : Nat} {f : Int → Option Value} (h : MapF w r f) (ht : P.underlying t = some (.map kt et)) (hkt : P.underlying kt = some (.int .i64)) {z : Value} (hz : ∀ w, (zeroValue et).run P w = .ok z w) (k : Int) :
    (Instr.lookup t (.map (some r)) (.int .i64 k) true).run P w = .ok (.tuple #[(f k).getD z, .bool (f k).isSome]) w := by
  obtain ⟨es, c, hb, hc⟩ := h.find k
  have hk : IsKey (.int .i64) (.int .i64 k) := rfl
  have hck : ∀ e, (Instr.checkKey e 10000 kt (.int .i64 k)).run P w = .ok () w := fun e => Go.MapKept.run_checkKey hkt hk e 9999
  rcases hc with ⟨h1, hf⟩ | ⟨v, j, h1, hf⟩
  · unfold Instr.lookup
    simp [run_underlying ht, Go.MapKept.run_getObj_map hb, hck, run_findKey hkt hf, go_sem, hz, h1]
  · unfold Instr.lookup
    simp [run_underlying ht, Go.MapKept.run_getObj_map hb, hck, run_findKey hkt hf, go_sem, h1]
theorem MapF.look1 {w : World} {r : Nat} {f : Int → Option Value} (h : MapF w r f) (ht : P.underlying t = some (.map kt et)) (hkt : P.underlying kt = some (.int .i64)) {z : Value} (hz : ∀ w, (zeroValue et).run P w = .ok z w) (k : Int) :
    (Instr.lookup t (.map (some r)) (.int .i64 k) false).run P w = .ok ((f k).getD z) w := by
  obtain ⟨es, c, hb, hc⟩ := h.find k
  have hk : IsKey (.int .i64) (.int .i64 k) := rfl
  have hck : ∀ e, (Instr.checkKey e 10000 kt (.int .i64 k)).run P w = .ok () w := fun e => Go.MapKept.run_checkKey hkt hk e 9999
  rcases hc with ⟨h1, hf⟩ | ⟨v, j, h1, hf⟩
  · unfold Instr.lookup
    simp [run_underlying ht, Go.MapKept.run_getObj_map hb, hck, run_findKey hkt hf, go_sem, hz, h1]
  · unfold Instr.lookup
    simp [run_underlying ht, Go.MapKept.run_getObj_map hb, hck, run_findKey hkt hf, go_sem, h1]
/-- f, with one value put. -/
def putM (f : Int → Option Value) (k : Int) (v : Value) : Int → Option Value := fun a => if a = k then some v else f a
theorem MapF.put {w : World} {r : Nat} {f : Int → Option Value} (h : MapF w r f) (ht : P.underlying t = some (.map kt et)) (hkt : P.underlying kt = some (.int .i64)) (k : Int) (v : Value) :
    ∃ o, (Instr.mapUpdate t (.map (some r)) (.int .i64 k) v).run P w = .ok () (setO w r o) ∧ MapF (setO w r o) r (putM f k v) := by
  have hlt := h.lt
  obtain ⟨es, c, hb, hs, hkeys, hf⟩ := h
  have hk : IsKey (.int .i64) (.int .i64 k) := rfl
  have hck : ∀ e, (Instr.checkKey e 10000 kt (.int .i64 k)).run P w = .ok () w := fun e => Go.MapKept.run_checkKey hkt hk e 9999
  rcases findNow_spec hk es.toList 0 hkeys with ⟨h1, h2⟩ | ⟨j, e, h1, h2, h3⟩
  · refine ⟨.map (es.push { key := .int .i64 k, val := v, born := c }) (c + 1), run_insI ht hkt k v hb hkeys h2, _, _, setO_same _ hlt, stamped_push hs h2, fun x hx => ?_, fun a u => ?_⟩
    · simp only [Array.toList_push, List.mem_append, List.mem_singleton] at hx
      rcases hx with hx | rfl
      · exact hkeys x hx
      · exact hk
    · simp only [Array.toList_push, List.mem_append, List.mem_singleton, putM]
      by_cases ha : a = k
      · subst ha
        rw [if_pos rfl]
        constructor
        · intro hu
          cases hu
          exact ⟨_, Or.inr rfl, rfl, rfl⟩
        · rintro ⟨x, hx | rfl, hxk, hxv⟩
          · exact absurd hxk (h2 x hx)
          · rw [← hxv]
      · rw [if_neg ha, hf]
        constructor
        · rintro ⟨x, hx, hxk⟩
          exact ⟨x, Or.inl hx, hxk⟩
        · rintro ⟨x, hx | rfl, hxk, hxv⟩
          · exact ⟨x, hx, hxk, hxv⟩
          · exact absurd (Value.int.inj hxk).2.symm ha
  · have hj : es[j]? = some e := by simpa using h2
    obtain ⟨g, hg⟩ : ∃ g : MapEntry → MapEntry, (fun e : MapEntry => ({ key := .int .i64 k, val := v, born := e.born } : MapEntry)) = g := ⟨_, rfl⟩
    have hrun : (Instr.mapUpdate t (.map (some r)) (.int .i64 k) v).run P w = .ok () (setO w r (.map (es.modify j g) c)) := by
      have hge : (Option.map (fun x => x.key) es[j]?).getD (.int .i64 k) = .int .i64 k := by rw [hj]; exact h3
      have hsb : Instr.sameBits 10000 (.int .i64 k) (.int .i64 k) = true := by simp [Instr.sameBits]
      unfold Instr.mapUpdate
      simp [run_underlying ht, Go.MapKept.run_getObj_map hb, Go.MapKept.run_setObj_map _ hb, hck, run_findKey hkt h1, go_sem, hj, h3, Instr.keyThatStays, hsb, ← hg]
      rfl
    have hat : ∀ i x, (es.modify j g).toList[i]? = some x ↔ if i = j then x = g e else es.toList[i]? = some x := by
      intro i x
      rw [Array.getElem?_toList, Array.getElem?_modify]
      by_cases hi : j = i
      · subst hi
        rw [if_pos rfl, if_pos rfl, hj]
        simp [eq_comm]
      · rw [if_neg hi, if_neg (fun x => hi x.symm), Array.getElem?_toList]
    have hkey : ∀ e', es[j]? = some e' → (g e').key = e'.key := fun e' he' => by rw [hj] at he'; cases he'; rw [← hg]; exact h3.symm
    have hgk : (g e).key = .int .i64 k ∧ (g e).val = v := by rw [← hg]; exact ⟨rfl, rfl⟩
    refine ⟨_, hrun, _, _, setO_same _ hlt, stamped_modify hs _ _ (fun _ _ => by rw [← hg]) (fun e' _ he' => hkey e' he'), isKey_modify hkeys _ _ hkey, fun a u => ?_⟩
    have huniq : ∀ i x, es.toList[i]? = some x → x.key = .int .i64 k → i = j := by
      intro i x hx hxk
      have hn := hs.2.2
      obtain ⟨hi, ei⟩ := List.getElem?_eq_some_iff.1 hx
      obtain ⟨hjl, ej⟩ := List.getElem?_eq_some_iff.1 h2
      rcases Nat.lt_trichotomy i j with h | h | h
      · have := List.pairwise_iff_getElem.1 hn i j (by simpa using hi) (by simpa using hjl) h
        simp only [List.getElem_map, ei, ej, hxk, h3] at this
        exact absurd rfl this
      · exact h
      · have := List.pairwise_iff_getElem.1 hn j i (by simpa using hjl) (by simpa using hi) h
        simp only [List.getElem_map, ei, ej, hxk, h3] at this
        exact absurd rfl this
    unfold putM
    by_cases ha : a = k
    · subst ha
      rw [if_pos rfl]
      constructor
      · intro hu
        cases hu
        exact ⟨g e, List.mem_of_getElem? ((hat j (g e)).2 (by rw [if_pos rfl])), hgk.1, hgk.2⟩
      · rintro ⟨x, hx, hxk, hxv⟩
        obtain ⟨i, hi⟩ := List.mem_iff_getElem?.1 hx
        have := (hat i x).1 hi
        by_cases hij : i = j
        · rw [if_pos hij] at this
          rw [this, hgk.2] at hxv
          rw [hxv]
        · rw [if_neg hij] at this
          exact absurd (huniq i x this hxk) hij
    · rw [if_neg ha, hf]
      constructor
      · rintro ⟨x, hx, hxk, hxv⟩
        obtain ⟨i, hi⟩ := List.mem_iff_getElem?.1 hx
        have hij : i ≠ j := by
          intro hij
          subst hij
          rw [h2] at hi
          cases hi
          rw [h3] at hxk
          exact ha (Value.int.inj hxk).2.symm
        exact ⟨x, List.mem_of_getElem? ((hat i x).2 (by rw [if_neg hij]; exact hi)), hxk, hxv⟩
      · rintro ⟨x, hx, hxk, hxv⟩
        obtain ⟨i, hi⟩ := List.mem_iff_getElem?.1 hx
        have := (hat i x).1 hi
        by_cases hij : i = j
        · rw [if_pos hij] at this
          rw [this, hgk.1] at hxk
          exact absurd (Value.int.inj hxk).2.symm ha
        · rw [if_neg hij] at this
          exact ⟨x, List.mem_of_getElem? this, hxk, hxv⟩
end Go.Proofs.YtjlilmonpklghaaGreatDoor

namespace Go.Proofs.YtjlilmonpklghaaGreatDoor
open Go.RowKit

def seenV (s : Nat → Bool) : Array Value := #[.bool (s 0), .bool (s 1), .bool (s 2), .bool (s 3), .bool (s 4)]
/-- What the document's line works on. -/
structure RS (base bc bn : Nat) (st : St) (w : World) : Prop where
  cfg : CfgAt base bc st.1 w
  seen : w.heap[bn]? = some (.cells (seenV st.2) 197 (0, 0))
  low : bc < base ∧ bn < base
  size : base ≤ w.heap.size
theorem RS.ne {base bc bn : Nat} {st : St} {w : World} (h : RS base bc bn st w) : bc ≠ bn := by
  obtain ⟨v, h1, _⟩ := h.cfg
  rintro rfl
  have := h.seen
  rw [h1] at this
  simp [seenV] at this
theorem RS.keep {base bc bn : Nat} {st : St} {w w' : World} (h : RS base bc bn st w) (hm : Mod NoB w w') : RS base bc bn st w' :=
  ⟨let ⟨v, h1, h2⟩ := h.cfg; ⟨v, hm.heap h1 id, ownsRow_mod h2 hm (fun _ f => f.elim)⟩, hm.heap h.seen id, h.low, Nat.le_trans h.size hm.size⟩

end Go.Proofs.YtjlilmonpklghaaGreatDoor

