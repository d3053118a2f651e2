/- Maps with texts as keys, entry by entry: a key put in, a look. -/
import Derived.Test.YtdcmjjinmnbaoaaDoorKitQ
import Derived.MapKept
namespace Go.Proofs.YtdcmjjinmnbaoaaDoor
open Go.RowKit Go.MapKept

/-- Block r, laid anew. -/
def setO (w : World) (r : Nat) (o : Obj) : World := { w with heap := w.heap.setIfInBounds r o }
theorem size_setO (w : World) (r : Nat) (o : Obj) : (setO w r o).heap.size = w.heap.size := by simp [setO]
theorem setO_same {w : World} {r : Nat} (o : Obj) (h : r < w.heap.size) : (setO w r o).heap[r]? = some o := by simp [setO, h]
theorem setO_mod {w : World} {r : Nat} (o : Obj) : Mod (· = r) w (setO w r o) :=
  ⟨rfl, rfl, rfl, by rw [size_setO]; exact Nat.le_refl _, fun k hk hn => by
    show (w.heap.setIfInBounds r o)[k]? = _
    rw [Array.getElem?_setIfInBounds_ne (fun e => hn e.symm)]⟩

variable {P : Program} {t kt et : TypeId}

theorem run_insS (ht : P.underlying t = some (.map kt et)) (hkt : P.underlying kt = some .string) {w : World} {r c : Nat} {es : Array MapEntry} (k : ByteArray) (v : Value) (hb : w.heap[r]? = some (.map es c))
    (hkeys : ∀ x ∈ es.toList, IsKey .string x.key) (hno : ∀ x ∈ es.toList, x.key ≠ .string k) :
    (Instr.mapUpdate t (.map (some r)) (.string k) v).run P w = .ok () (setO w r (.map (es.push { key := .string k, val := v, born := c }) (c + 1))) := by
  have hk : IsKey .string (.string k) := by simp [IsKey]
  have hf : Instr.findNow .string (.string k) es.toList 0 = some none := by
    rcases findNow_spec hk es.toList 0 hkeys with ⟨h, _⟩ | ⟨j, e, _, h2, h3⟩
    · exact h
    · exact absurd h3 (hno e (List.mem_of_getElem? h2))
  have hck : ∀ e, (Instr.checkKey e 10000 kt (.string k)).run P w = .ok () w := fun e => Go.MapKept.run_checkKey hkt hk e 9999
  unfold Instr.mapUpdate
  simp [run_underlying ht, Go.MapKept.run_getObj_map hb, Go.MapKept.run_setObj_map _ hb, hck, run_findKey hkt hf, go_sem]
  rfl

theorem run_lookS (ht : P.underlying t = some (.map kt et)) (hkt : P.underlying kt = some .string) {w : World} {r c : Nat} {es : Array MapEntry} (k : ByteArray) {e : MapEntry} (hb : w.heap[r]? = some (.map es c))
    (hkeys : ∀ x ∈ es.toList, IsKey .string x.key) (hin : e ∈ es.toList) (hek : e.key = .string k) (huniq : ∀ x ∈ es.toList, x.key = .string k → x.val = e.val) :
    (Instr.lookup t (.map (some r)) (.string k) true).run P w = .ok (.tuple #[e.val, .bool true]) w := by
  have hk : IsKey .string (.string k) := by simp [IsKey]
  obtain ⟨j, e', hf, h2, h3⟩ : ∃ j e', Instr.findNow .string (.string k) es.toList 0 = some (some (0 + j, e'.val)) ∧ es.toList[j]? = some e' ∧ e'.key = .string k := by
    rcases findNow_spec hk es.toList 0 hkeys with ⟨_, h⟩ | ⟨j, e', h1, h2, h3⟩
    · exact absurd hek (h e hin)
    · exact ⟨j, e', h1, h2, h3⟩
  have hv := huniq e' (List.mem_of_getElem? h2) h3
  have hck : ∀ e, (Instr.checkKey e 10000 kt (.string k)).run P w = .ok () w := fun e => Go.MapKept.run_checkKey hkt hk e 9999
  unfold Instr.lookup
  simp [run_underlying ht, Go.MapKept.run_getObj_map hb, hck, run_findKey hkt hf, go_sem, hv]

theorem run_lookN (ht : P.underlying t = some (.map kt et)) (hkt : P.underlying kt = some .string) {z : Value} (hz : ∀ w, (zeroValue et).run P w = .ok z w) {w : World} {r c : Nat} {es : Array MapEntry} (k : ByteArray) (hb : w.heap[r]? = some (.map es c))
    (hkeys : ∀ x ∈ es.toList, IsKey .string x.key) (hno : ∀ x ∈ es.toList, x.key ≠ .string k) :
    (Instr.lookup t (.map (some r)) (.string k) true).run P w = .ok (.tuple #[z, .bool false]) w := by
  have hk : IsKey .string (.string k) := by simp [IsKey]
  have hf : Instr.findNow .string (.string k) es.toList 0 = some none := by
    rcases findNow_spec hk es.toList 0 hkeys with ⟨h, _⟩ | ⟨j, e, _, h2, h3⟩
    · exact h
    · exact absurd h3 (hno e (List.mem_of_getElem? h2))
  have hck : ∀ e, (Instr.checkKey e 10000 kt (.string k)).run P w = .ok () w := fun e => Go.MapKept.run_checkKey hkt hk e 9999
  unfold Instr.lookup
  simp [run_underlying ht, Go.MapKept.run_getObj_map hb, hck, run_findKey hkt hf, go_sem, hz]
end Go.Proofs.YtdcmjjinmnbaoaaDoor
