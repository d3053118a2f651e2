/- conf.line, walked. -/
import Derived.Test.YtdcmjjinmnbaoaaDoorCfN
namespace Go.Proofs.YtdcmjjinmnbaoaaDoor
open Go.RowKit

theorem ents_at {v : Nat → Value} {order : List Nat} {k : Nat} (h : k ∈ order) : ∃ x ∈ (ents v order).toArray.toList, x.key = .string ⟨(keyW k).toArray⟩ ∧ x.val = v k := by
  obtain ⟨i, hi, rfl⟩ := List.getElem_of_mem h
  refine ⟨{ key := .string ⟨(keyW order[i]).toArray⟩, val := v order[i], born := i }, ?_, rfl, rfl⟩
  unfold ents
  simp only [List.mem_map]
  exact ⟨(order[i], i), by rw [List.mem_zipIdx_iff_getElem?]; simp [hi], rfl⟩
theorem zeroWord (w : World) : (zeroValue 52).run Tryd.prog w = .ok (.pointer none) w := by kernel_rfl
theorem look_word {bM : Nat} {b : Nat → Nat} {order : List Nat} {w : World} {k : Nat} (k5 : k < 5) (hb : w.heap[bM]? = some (.map (ents (fun k => at0c (b k) 0) order).toArray order.length)) (hall : ∀ k, k ∈ order ↔ k < 5) {s : List UInt8} (hs : keyW k = s) :
    (Instr.lookup 47 (.map (some bM)) (.string (bs s)) true).run Tryd.prog w = .ok (.tuple #[at0c (b k) 0, .bool true]) w := by
  subst hs
  obtain ⟨x, hx, hk, hv⟩ := ents_at (v := fun k => at0c (b k) 0) ((hall k).2 k5)
  have := run_lookS Tryd.underlying47 Tryd.underlying9 (bs (keyW k)) (e := x) hb ents_keys hx hk (by
    intro y hy hyk
    obtain ⟨j, hj, h1, h2⟩ := ents_mem (by simpa using hy)
    rw [h1] at hyk
    have h3 : keyW j = keyW k := by simpa using hyk
    obtain rfl := keyW_inj j ((hall j).1 hj) k k5 h3
    rw [h2, hv])
  rw [hv] at this
  exact this
theorem look_none {bM : Nat} {b : Nat → Nat} {order : List Nat} {w : World} (hb : w.heap[bM]? = some (.map (ents (fun k => at0c (b k) 0) order).toArray order.length)) (hall : ∀ k, k ∈ order ↔ k < 5) {s : List UInt8} (hs : keyOf s = none) :
    (Instr.lookup 47 (.map (some bM)) (.string (bs s)) true).run Tryd.prog w = .ok (.tuple #[.pointer none, .bool false]) w := by
  refine run_lookN Tryd.underlying47 Tryd.underlying9 zeroWord (bs s) hb ents_keys ?_
  intro x hx e
  obtain ⟨j, hj, h1, _⟩ := ents_mem (by simpa using hx)
  rw [h1] at e
  exact keyOf_none hs j ((hall j).1 hj) (by simpa using e)

/-- The words of a line in memory. -/
def WordsAt (g : Nat) (ws : List (List UInt8)) (w : World) : Prop := ∀ j s, ws[j]? = some s → w.cell? ⟨g, j, none⟩ = some (.string (bs s))

def LineOut (base bc B0 bM : Nat) (b : Nat → Nat) (order : List Nat) (st : St) (ws : List (List UInt8)) (w : World) (e : Ending) (w' : World) : Prop :=
  e = .returned (.int .i64 (lineR ws st).1) ∧ ((lineR ws st).1 = 0 → CM base bc B0 bM b order (lineR ws st).2 w') ∧ ((lineR ws st).1 ≠ 0 → Mod (fun x => bc ≤ x ∧ x < base) w w')

theorem many_small : ∀ k, k < 5 → manyW k = 1 ∨ manyW k = 2 := by decide
theorem many_fields : ∀ k, k < 5 → 0 < k → ((fieldsW k).length : Int) = manyW k := by decide

theorem WordB.at0 {base bc B0 k : Nat} {seen : Bool} {w : World} {b : Nat} (h : WordB base bc B0 k seen w b) (k5 : k < 5) : ∃ f, w.heap[b]? = some (.cells #[.int .i64 (manyW k), .bool (decide (k = 0)), .bool seen, f] 55 (0, 0)) := by
  obtain ⟨_, h⟩ := h
  by_cases hk : k = 0
  · subst hk
    rw [if_pos rfl] at h
    exact ⟨_, h⟩
  · rw [if_neg hk] at h
    obtain ⟨bl, ba, _, _, h1, _⟩ := h
    rw [many_fields k k5 (by omega)] at h1
    refine ⟨fTake bl, ?_⟩
    rw [h1]
    simp [hk]

set_option maxRecDepth 100000 in
set_option maxHeartbeats 4000000 in
theorem line_none (base bc B0 bM : Nat) (b : Nat → Nat) (order : List Nat) (st : St) (ws : List (List UInt8)) (g cap : Nat) (w : World) (hC : CM base bc B0 bM b order st w) (h0 : 0 < ws.length) (hw : WordsAt g ws w) (hk : keyOf (ws.getD 0 []) = none) :
    Calls Tryd.prog 22 #[.map (some bM), .slice (some ⟨g, 0, none⟩) ws.length cap] w fun e w' => e = .returned (.int .i64 10) ∧ w' = w := by
  obtain ⟨s, hs⟩ : ∃ s, ws[0]? = some s := ⟨ws[0], by simp [h0]⟩
  have hc := hw 0 s hs
  have hk' : keyOf s = none := by simpa [List.getD, hs] using hk
  have hlk := look_none (w := w) hC.map hC.all hk'
  have hl0 : (0 : Int) < (ws.length : Int) := by omega
  clear hs hk hk' hw hC
  go_enter Tryd.func22, Tryd.ntmps22
  go_wp2
  go_ret
  exact ⟨rfl, rfl⟩

set_option maxRecDepth 100000 in
set_option maxHeartbeats 4000000 in
theorem line_form (base bc B0 bM : Nat) (b : Nat → Nat) (order : List Nat) (st : St) (ws : List (List UInt8)) (g cap : Nat) (w : World) (hC : CM base bc B0 bM b order st w) (h0 : 0 < ws.length) (hw : WordsAt g ws w) {k : Nat} (hk : keyOf (ws.getD 0 []) = some k) (hl : ws.length < 1000000) (hn : (ws.length : Int) ≠ 1 + manyW k) :
    Calls Tryd.prog 22 #[.map (some bM), .slice (some ⟨g, 0, none⟩) ws.length cap] w fun e w' => e = .returned (.int .i64 6) ∧ w' = w := by
  obtain ⟨s, hs⟩ : ∃ s, ws[0]? = some s := ⟨ws[0], by simp [h0]⟩
  have hc := hw 0 s hs
  have hk' : keyOf s = some k := by simpa [List.getD, hs] using hk
  obtain ⟨k5, hks⟩ := keyOf_some hk'
  have hlk := look_word (w := w) k5 hC.map hC.all hks
  have hl0 : (0 : Int) < (ws.length : Int) := by omega
  obtain ⟨f, hb⟩ := (hC.word k k5).at0 k5
  have hc0 := cell_of_block hb 0 (v := .int .i64 (manyW k)) rfl
  have hms := many_small k k5
  generalize manyW k = m at hn hc0 hms
  have hm0 : 0 ≤ m := by omega
  have hm1 : m ≤ 2 := by omega
  have hne : ((ws.length : Int) != 1 + m) = true := by simpa [bne_iff_ne] using hn
  clear hs hk hk' hw hC hks hb hms hn
  go_enter Tryd.func22, Tryd.ntmps22
  go_wp2
  go_ret
  exact ⟨rfl, rfl⟩
end Go.Proofs.YtdcmjjinmnbaoaaDoor
