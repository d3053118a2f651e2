/- A literal map from bool to int, wherever its block lies: its making, and a look into it. -/
import Derived.Test.YtffcklhoeejlfaaDoorKit
namespace Go.Proofs.YtffcklhoeejlfaaDoor
open Go.RowKit

def ent (k : Bool) (v : Int) (n : Nat) : MapEntry := { key := .bool k, val := .int .i64 v, born := n }

/-- What lies at block r. -/
def objAt (w : World) (r : Nat) : Option Obj := w.heap[r]?
/-- Block r, laid anew. -/
def setO (w : World) (r : Nat) (o : Obj) : World := { w with heap := w.heap.setIfInBounds r o }

theorem objAt_new (w : World) (o : Obj) : objAt (w.alloc o) w.heap.size = some o := heap_alloc_new w o
theorem objAt_drew (w : World) (r : Nat) : objAt w.drew r = objAt w r := rfl
theorem size_setO (w : World) (r : Nat) (o : Obj) : (setO w r o).heap.size = w.heap.size := by simp [setO]
theorem objAt_setO (w : World) (r : Nat) (o : Obj) (h : r < w.heap.size) : objAt (setO w r o) r = some o := by
  simp [objAt, setO, h]
theorem Mod.setO {S : Nat → Prop} {a w : World} (h : Mod S a w) {r : Nat} (hr : a.heap.size ≤ r) (o : Obj) : Mod S a (setO w r o) :=
  ⟨h.os, h.tape, h.output, by rw [size_setO]; exact h.size, fun k hk hn => by
    show (w.heap.setIfInBounds r o)[k]? = _
    rw [Array.getElem?_setIfInBounds_ne (by omega)]
    exact h.block k hk hn⟩
theorem Mod.objAt {S : Nat → Prop} {w w' : World} (h : Mod S w w') (hS : ∀ k, ¬ S k) (r : Nat) (hr : r < w.heap.size) : objAt w' r = objAt w r := h.block r hr (hS r)

theorem lt1 {w : World} {o : Obj} {n : Nat} (h : (w.alloc o).heap.size ≤ n) : w.heap.size < n := by simp at h; omega
theorem lt2 {w : World} {o o' : Obj} {r n : Nat} (h : (setO (w.alloc o) r o').heap.size ≤ n) : w.heap.size < n := by rw [size_setO] at h; exact lt1 h
theorem lt3 {w : World} {o o' o'' : Obj} {r r' n : Nat} (h : (setO (setO (w.alloc o) r o') r' o'').heap.size ≤ n) : w.heap.size < n := by rw [size_setO] at h; exact lt2 h
theorem run_getMap {P : Program} (w : World) (r : Nat) (es : Array MapEntry) (c : Nat) (h : objAt w r = some (.map es c)) : (getObj r).run P w = .ok (.map es c) w := by
  have h0 : w.heap[r]? = some (.map es c) := h
  simp only [getObj, Sem.run, h0]
theorem run_setMap {P : Program} (w : World) (r : Nat) (es es' : Array MapEntry) (c c' : Nat) (h : objAt w r = some (.map es c)) : (setObj r (.map es' c')).run P w = .ok () (setO w r (.map es' c')) := by
  have h0 : w.heap[r]? = some (.map es c) := h
  simp only [setObj, Sem.run, h0]
  rfl
theorem run_checkKey (e b : Bool) (n : Nat) (w : World) : (Instr.checkKey e (n + 1) 4 (.bool b)).run Tryd.prog w = .ok () w := by
  simp [Instr.checkKey, run_underlying Tryd.underlying4]
theorem run_checkKeyB (e b : Bool) (w : World) : (Instr.checkKey e 10000 4 (.bool b)).run Tryd.prog w = .ok () w := run_checkKey e b 9999 w
theorem run_put1 (v : Int) (w : World) (r : Nat) (h : objAt w r = some (.map #[] 0)) : (Instr.mapUpdate 34 (.map (some r)) (.bool true) (.int .i64 v)).run Tryd.prog w = .ok () (setO w r (.map #[ent true v 0] 1)) := by
  unfold Instr.mapUpdate
  simp [run_underlying Tryd.underlying34, run_underlying Tryd.underlying4, run_getMap w r _ _ h, run_setMap w r _ _ _ _ h, run_checkKeyB, Instr.findKey, Instr.findNow, ent, go_sem]
theorem run_put2 (v u : Int) (w : World) (r : Nat) (h : objAt w r = some (.map #[ent true v 0] 1)) : (Instr.mapUpdate 34 (.map (some r)) (.bool false) (.int .i64 u)).run Tryd.prog w = .ok () (setO w r (.map #[ent true v 0, ent false u 1] 2)) := by
  unfold Instr.mapUpdate
  simp [run_underlying Tryd.underlying34, run_underlying Tryd.underlying4, run_getMap w r _ _ h, run_setMap w r _ _ _ _ h, run_checkKeyB, Instr.findKey, Instr.findNow, Instr.sameNow, ent, go_sem]
theorem run_get2 (b : Bool) (v u : Int) (w : World) (r : Nat) (h : objAt w r = some (.map #[ent true v 0, ent false u 1] 2)) : (Instr.lookup 34 (.map (some r)) (.bool b) false).run Tryd.prog w = .ok (.int .i64 (if b then v else u)) w := by
  unfold Instr.lookup
  cases b <;> simp [run_underlying Tryd.underlying34, run_underlying Tryd.underlying4, run_getMap w r _ _ h, run_checkKeyB, Instr.findKey, Instr.findNow, Instr.sameNow, ent, go_sem]
theorem run_put1f (v : Int) (w : World) (r : Nat) (h : objAt w r = some (.map #[] 0)) : (Instr.mapUpdate 34 (.map (some r)) (.bool false) (.int .i64 v)).run Tryd.prog w = .ok () (setO w r (.map #[ent false v 0] 1)) := by
  unfold Instr.mapUpdate
  simp [run_underlying Tryd.underlying34, run_underlying Tryd.underlying4, run_getMap w r _ _ h, run_setMap w r _ _ _ _ h, run_checkKeyB, Instr.findKey, Instr.findNow, ent, go_sem]
theorem run_put2f (v u : Int) (w : World) (r : Nat) (h : objAt w r = some (.map #[ent false v 0] 1)) : (Instr.mapUpdate 34 (.map (some r)) (.bool true) (.int .i64 u)).run Tryd.prog w = .ok () (setO w r (.map #[ent false v 0, ent true u 1] 2)) := by
  unfold Instr.mapUpdate
  simp [run_underlying Tryd.underlying34, run_underlying Tryd.underlying4, run_getMap w r _ _ h, run_setMap w r _ _ _ _ h, run_checkKeyB, Instr.findKey, Instr.findNow, Instr.sameNow, ent, go_sem]
theorem run_get2f (b : Bool) (v u : Int) (w : World) (r : Nat) (h : objAt w r = some (.map #[ent false v 0, ent true u 1] 2)) : (Instr.lookup 34 (.map (some r)) (.bool b) false).run Tryd.prog w = .ok (.int .i64 (if b then u else v)) w := by
  unfold Instr.lookup
  cases b <;> simp [run_underlying Tryd.underlying34, run_underlying Tryd.underlying4, run_getMap w r _ _ h, run_checkKeyB, Instr.findKey, Instr.findNow, Instr.sameNow, ent, go_sem]

end Go.Proofs.YtffcklhoeejlfaaDoor
