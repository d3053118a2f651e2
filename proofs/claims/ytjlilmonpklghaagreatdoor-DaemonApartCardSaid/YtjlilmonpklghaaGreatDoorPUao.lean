/- slices.Clone at samples, votes, int64 (contracts). conf.line: what it answers, and what it works on. conf.Print's closure: a line. conf.Print. Chapter 5's rows: what their list gives; a text handed in. Numbers and their texts; what the rows of numbers list. Lines that are built of words and blanks: plain Lean. What a config's text comes to: plain Lean. -/
import Derived.Test.YtjlilmonpklghaaGreatDoorPUan
import Derived.Maps.AppendAt
import Derived.Test.YtjlilmonpklghaaGreatDoorPUaf
import Derived.Test.YtjlilmonpklghaaGreatDoorPUaj
import Derived.Test.YtjlilmonpklghaaGreatDoorPUam
import Derived.Test.YtjlilmonpklghaaGreatDoorCards
import Derived.Test.YtjlilmonpklghaaGreatDoorTie
import Derived.Test.YtjlilmonpklghaaGreatDoorPUai
import Derived.Lay
import Derived.Deep.DeepWitnessRowRef
import Derived.ChangeMaps5
namespace Go.Proofs.YtjlilmonpklghaaGreatDoor
set_option linter.unusedSimpArgs false
open Go.RowKit


theorem infoCS : (Tryz.prog.info? 94).map (fun i => (i.zero, i.size, i.bytes)) = some (some (.agg #[.int .i64 0, .int .i64 0, .int .i64 0, .int .i64 0]), 4, 32) := by kernel_rfl
theorem cloneS_nil (n c : Nat) (w : World) :
    Calls Tryz.prog 307 #[.slice none n c] w fun e w' => e = .returned (.slice none 0 0) ∧ w = w' := by
  have qS : ∀ (w : World) (a : Option Addr) (n c n' c' : Nat), (binOp .eql 267 (.slice a n c) (.slice none n' c')).run Tryz.prog w = .ok (.bool a.isNone) w := fun w a n c n' c' => Lib.run_eql_slice_nil w _ _ a n c n' c' Tryz.underlying267
  go_enter Tryz.func307, Tryz.ntmps307
  go_wp2
  go_ret
  exact ⟨rfl, rfl⟩
set_option maxRecDepth 100000 in
theorem cloneS_any (g off n c : Nat) (xs : List Value) (hx : xs.length = n * 4) (hn : n ≤ 100000) (h1 : ∀ u ∈ xs, u.oneCell' = true) (w : World) (hc : ∀ j u, xs[j]? = some u → w.cell? ⟨g, off + j, none⟩ = some u) :
    Calls Tryz.prog 307 #[.slice (some ⟨g, off, none⟩) n c] w fun e w' => ∃ v', e = .returned v' ∧ w'.ownsRow w.heap.size 94 4 v' n xs ∧ Mod NoB w w' := by
  have qS : ∀ (w : World) (a : Option Addr) (n c n' c' : Nat), (binOp .eql 267 (.slice a n c) (.slice none n' c')).run Tryz.prog w = .ok (.bool a.isNone) w := fun w a n c n' c' => Lib.run_eql_slice_nil w _ _ a n c n' c' Tryz.underlying267
  obtain ⟨i0, hi, hz0, hz1, hz2⟩ := info_parts infoCS
  have hown : (w.alloc (.cells #[] 94)).ownsRow w.heap.size 94 4 (.slice (some ⟨w.heap.size, 0, none⟩) 0 0) 0 [] :=
    ⟨rfl, Or.inr ⟨w.heap.size, 0, #[], rfl, Nat.le_refl _, heap_alloc_new _ _, Nat.le_refl _, by decide, rfl, rfl⟩⟩
  have hnews : ∀ j u, xs[j]? = some u → (w.alloc (.cells #[] 94)).cell? ((⟨g, off, none⟩ : Addr).add j) = some u := by
    intro j u hj
    rw [show ((⟨g, off, none⟩ : Addr).add j) = ⟨g, off + j, none⟩ by simp [Addr.add]]
    exact ((Mod.refl NoB w).alloc _).cellAt id (hc j u hj)
  have hm0 := (Mod.refl NoB w).alloc (.cells #[] 94)
  replace hown := hide hown
  replace hnews := hide hnews
  replace hm0 := hide hm0
  replace hx := hide hx
  replace h1 := hide h1
  replace hi := hide hi
  replace hz0 := hide hz0
  replace hz1 := hide hz1
  replace hz2 := hide hz2
  clear hc
  go_enter Tryz.func307, Tryz.ntmps307
  go_wp2_with (at_builtin; refine wpList_append_own_at _ rfl _ _ 267 rfl w.heap.size 94 i0 (.agg #[.int .i64 0, .int .i64 0, .int .i64 0, .int .i64 0]) 4 32 Tryz.underlying267 hi.out hz0.out hz1.out hz2.out rfl (by decide) (.slice (some ⟨w.heap.size, 0, none⟩) 0 0) 0 [] rfl hown.out ⟨g, off, none⟩ n c xs rfl hx.out hnews.out h1.out (by unfold maxLen; omega) (by omega) (by simp) ?_; intro v' w5 hown' hgrow _ hblk)
  have hm5 : Mod NoB w w5 := Mod.grown hm0.out hgrow (fun k hk => by cases hk; exact Nat.le_refl _)
  obtain ⟨a, cc, rfl⟩ := own_value hown'
  rw [Nat.zero_add] at hown' ⊢
  replace hown' := hide hown'
  replace hm5 := hide hm5
  clear hgrow hblk
  go_wp2_with fail
  go_ret
  exact ⟨_, rfl, by simpa using hown'.out, hm5.out⟩


theorem infoCV : (Tryz.prog.info? 96).map (fun i => (i.zero, i.size, i.bytes)) = some (some (.agg #[.int .i64 0, .int .i64 0, .int .i64 0, .int .i64 0, .int .i64 0, .int .i64 0]), 6, 48) := by kernel_rfl
theorem cloneV_nil (n c : Nat) (w : World) :
    Calls Tryz.prog 84 #[.slice none n c] w fun e w' => e = .returned (.slice none 0 0) ∧ w = w' := by
  have qS : ∀ (w : World) (a : Option Addr) (n c n' c' : Nat), (binOp .eql 87 (.slice a n c) (.slice none n' c')).run Tryz.prog w = .ok (.bool a.isNone) w := fun w a n c n' c' => Lib.run_eql_slice_nil w _ _ a n c n' c' Tryz.underlying87
  go_enter Tryz.func84, Tryz.ntmps84
  go_wp2
  go_ret
  exact ⟨rfl, rfl⟩
set_option maxRecDepth 100000 in
theorem cloneV_any (g off n c : Nat) (xs : List Value) (hx : xs.length = n * 6) (hn : n ≤ 100000) (h1 : ∀ u ∈ xs, u.oneCell' = true) (w : World) (hc : ∀ j u, xs[j]? = some u → w.cell? ⟨g, off + j, none⟩ = some u) :
    Calls Tryz.prog 84 #[.slice (some ⟨g, off, none⟩) n c] w fun e w' => ∃ v', e = .returned v' ∧ w'.ownsRow w.heap.size 96 6 v' n xs ∧ Mod NoB w w' := by
  have qS : ∀ (w : World) (a : Option Addr) (n c n' c' : Nat), (binOp .eql 87 (.slice a n c) (.slice none n' c')).run Tryz.prog w = .ok (.bool a.isNone) w := fun w a n c n' c' => Lib.run_eql_slice_nil w _ _ a n c n' c' Tryz.underlying87
  obtain ⟨i0, hi, hz0, hz1, hz2⟩ := info_parts infoCV
  have hown : (w.alloc (.cells #[] 96)).ownsRow w.heap.size 96 6 (.slice (some ⟨w.heap.size, 0, none⟩) 0 0) 0 [] :=
    ⟨rfl, Or.inr ⟨w.heap.size, 0, #[], rfl, Nat.le_refl _, heap_alloc_new _ _, Nat.le_refl _, by decide, rfl, rfl⟩⟩
  have hnews : ∀ j u, xs[j]? = some u → (w.alloc (.cells #[] 96)).cell? ((⟨g, off, none⟩ : Addr).add j) = some u := by
    intro j u hj
    rw [show ((⟨g, off, none⟩ : Addr).add j) = ⟨g, off + j, none⟩ by simp [Addr.add]]
    exact ((Mod.refl NoB w).alloc _).cellAt id (hc j u hj)
  have hm0 := (Mod.refl NoB w).alloc (.cells #[] 96)
  replace hown := hide hown
  replace hnews := hide hnews
  replace hm0 := hide hm0
  replace hx := hide hx
  replace h1 := hide h1
  replace hi := hide hi
  replace hz0 := hide hz0
  replace hz1 := hide hz1
  replace hz2 := hide hz2
  clear hc
  go_enter Tryz.func84, Tryz.ntmps84
  go_wp2_with (at_builtin; refine wpList_append_own_at _ rfl _ _ 87 rfl w.heap.size 96 i0 (.agg #[.int .i64 0, .int .i64 0, .int .i64 0, .int .i64 0, .int .i64 0, .int .i64 0]) 6 48 Tryz.underlying87 hi.out hz0.out hz1.out hz2.out rfl (by decide) (.slice (some ⟨w.heap.size, 0, none⟩) 0 0) 0 [] rfl hown.out ⟨g, off, none⟩ n c xs rfl hx.out hnews.out h1.out (by unfold maxLen; omega) (by omega) (by simp) ?_; intro v' w5 hown' hgrow _ hblk)
  have hm5 : Mod NoB w w5 := Mod.grown hm0.out hgrow (fun k hk => by cases hk; exact Nat.le_refl _)
  obtain ⟨a, cc, rfl⟩ := own_value hown'
  rw [Nat.zero_add] at hown' ⊢
  replace hown' := hide hown'
  replace hm5 := hide hm5
  clear hgrow hblk
  go_wp2_with fail
  go_ret
  exact ⟨_, rfl, by simpa using hown'.out, hm5.out⟩


theorem infoCL : (Tryz.prog.info? 2).map (fun i => (i.zero, i.size, i.bytes)) = some (some (.int .i64 0), 1, 8) := by kernel_rfl
set_option maxRecDepth 100000 in
theorem cloneL_any (g off n c : Nat) (xs : List Value) (hx : xs.length = n * 1) (hn : n ≤ 100000) (h1 : ∀ u ∈ xs, u.oneCell' = true) (w : World) (hc : ∀ j u, xs[j]? = some u → w.cell? ⟨g, off + j, none⟩ = some u) :
    Calls Tryz.prog 295 #[.slice (some ⟨g, off, none⟩) n c] w fun e w' => ∃ v', e = .returned v' ∧ w'.ownsRow w.heap.size 2 1 v' n xs ∧ Mod NoB w w' := by
  have qS : ∀ (w : World) (a : Option Addr) (n c n' c' : Nat), (binOp .eql 66 (.slice a n c) (.slice none n' c')).run Tryz.prog w = .ok (.bool a.isNone) w := fun w a n c n' c' => Lib.run_eql_slice_nil w _ _ a n c n' c' Tryz.underlying66
  obtain ⟨i0, hi, hz0, hz1, hz2⟩ := info_parts infoCL
  have hown : (w.alloc (.cells #[] 2)).ownsRow w.heap.size 2 1 (.slice (some ⟨w.heap.size, 0, none⟩) 0 0) 0 [] :=
    ⟨rfl, Or.inr ⟨w.heap.size, 0, #[], rfl, Nat.le_refl _, heap_alloc_new _ _, Nat.le_refl _, by decide, rfl, rfl⟩⟩
  have hnews : ∀ j u, xs[j]? = some u → (w.alloc (.cells #[] 2)).cell? ((⟨g, off, none⟩ : Addr).add j) = some u := by
    intro j u hj
    rw [show ((⟨g, off, none⟩ : Addr).add j) = ⟨g, off + j, none⟩ by simp [Addr.add]]
    exact ((Mod.refl NoB w).alloc _).cellAt id (hc j u hj)
  have hm0 := (Mod.refl NoB w).alloc (.cells #[] 2)
  replace hown := hide hown
  replace hnews := hide hnews
  replace hm0 := hide hm0
  replace hx := hide hx
  replace h1 := hide h1
  replace hi := hide hi
  replace hz0 := hide hz0
  replace hz1 := hide hz1
  replace hz2 := hide hz2
  clear hc
  go_enter Tryz.func295, Tryz.ntmps295
  go_wp2_with (at_builtin; refine wpList_append_own_at _ rfl _ _ 66 rfl w.heap.size 2 i0 (.int .i64 0) 1 8 Tryz.underlying66 hi.out hz0.out hz1.out hz2.out rfl (by decide) (.slice (some ⟨w.heap.size, 0, none⟩) 0 0) 0 [] rfl hown.out ⟨g, off, none⟩ n c xs rfl hx.out hnews.out h1.out (by unfold maxLen; omega) (by omega) (by simp) ?_; intro v' w5 hown' hgrow _ hblk)
  have hm5 : Mod NoB w w5 := Mod.grown hm0.out hgrow (fun k hk => by cases hk; exact Nat.le_refl _)
  obtain ⟨a, cc, rfl⟩ := own_value hown'
  rw [Nat.zero_add] at hown' ⊢
  replace hown' := hide hown'
  replace hm5 := hide hm5
  clear hgrow hblk
  go_wp2_with fail
  go_ret
  exact ⟨_, rfl, by simpa using hown'.out, hm5.out⟩

end Go.Proofs.YtjlilmonpklghaaGreatDoor

namespace Go.Proofs.YtjlilmonpklghaaGreatDoor
open Go.RowKit

/-- Which word is it? -/
def keyOf (s : List UInt8) : Option Nat := (List.range 5).find? fun k => keyW k == s
theorem keyOf_some {s : List UInt8} {k : Nat} (h : keyOf s = some k) : k < 5 ∧ keyW k = s := by
  unfold keyOf at h
  exact ⟨by simpa using List.mem_of_find?_eq_some h, by simpa using List.find?_some h⟩
theorem keyOf_none {s : List UInt8} (h : keyOf s = none) : ∀ k, k < 5 → keyW k ≠ s := by
  unfold keyOf at h
  intro k hk
  have := List.find?_eq_none.1 h k (by simpa using hk)
  simpa using this
theorem keyOf_keyW {k : Nat} (h : k < 5) : keyOf (keyW k) = some k := by
  have : ∀ k, k < 5 → keyOf (keyW k) = some k := by decide
  exact this k h
/-- The first error among words that are to be numbers. -/
def numsE : List (List UInt8) → Int
  | [] => 0
  | s :: r => if (numR s).2 = 0 then numsE r else (numR s).2
theorem numsE_at : ∀ {ws : List (List UInt8)} {i : Nat}, (∀ j, j < i → (numR (ws.getD j [])).2 = 0) → i < ws.length → (numR (ws.getD i [])).2 ≠ 0 → numsE ws = (numR (ws.getD i [])).2 := by
  intro ws
  induction ws with
  | nil => intro i _ h; simp at h
  | cons s r ih =>
    intro i h hi hne
    cases i with
    | zero => simp at hne ⊢; rw [numsE, if_neg hne]
    | succ i =>
      have h0 := h 0 (by omega)
      simp at h0
      rw [numsE, if_pos h0]
      have := ih (i := i) (fun j hj => by have := h (j + 1) (by omega); simpa using this) (by simp at hi; omega) (by simpa using hne)
      simpa using this
theorem numsE_all : ∀ {ws : List (List UInt8)}, (∀ j, j < ws.length → (numR (ws.getD j [])).2 = 0) → numsE ws = 0 := by
  intro ws
  induction ws with
  | nil => intro _; rfl
  | cons s r ih =>
    intro h
    have h0 := h 0 (by simp)
    simp at h0
    rw [numsE, if_pos h0]
    exact ih fun j hj => by have := h (j + 1) (by simp; omega); simpa using this
/-- A config, and which words were seen. -/
abbrev St := Cfg × (Nat → Bool)
def putF (a : Cfg) (k : Nat) (xs : List Int) : Cfg :=
  match k with
  | 1 => { a with q := xs.getD 0 0 }
  | 2 => { a with l := xs.getD 0 0, m := xs.getD 1 0 }
  | 3 => { a with d := xs.getD 0 0 }
  | 4 => { a with s := xs.getD 0 0 }
  | _ => a
def takeR (k : Nat) (xs : List Int) (st : St) : Int × St :=
  if k = 0 then (if inI st.1.srv (xs.getD 0 0) = true then (12, st) else if st.1.srv.length = 16 then (11, st) else (0, ({ st.1 with srv := st.1.srv ++ [xs.getD 0 0] }, st.2)))
  else (0, (putF st.1 k xs, st.2))
def lineK (k : Nat) (ws : List (List UInt8)) (st : St) : Int × St :=
  if (ws.length : Int) ≠ 1 + manyW k then (6, st) else if numsE (ws.drop 1) ≠ 0 then (numsE (ws.drop 1), st)
  else if st.2 k = true ∧ k ≠ 0 then (12, st) else takeR k ((ws.drop 1).map fun s => (numR s).1) (st.1, upd st.2 k true)
/-- What a line does. -/
def lineR (ws : List (List UInt8)) (st : St) : Int × St := match keyOf (ws.getD 0 []) with
  | none => (10, st)
  | some k => lineK k ws st

/-- A word's block, and what hangs on it, below base. -/
def WordB (base bc B0 : Nat) (k : Nat) (seen : Bool) (w : World) (b : Nat) : Prop :=
  b < base ∧ if k = 0 then w.heap[b]? = some (.cells #[.int .i64 1, .bool true, .bool seen, fServer B0] 225 (0, 0))
  else ∃ bl ba, bl < base ∧ ba < base ∧ w.heap[b]? = some (.cells #[.int .i64 (fieldsW k).length, .bool false, .bool seen, fTake bl] 225 (0, 0)) ∧
    w.heap[bl]? = some (.cells #[.slice (some ⟨ba, 0, none⟩) (fieldsW k).length (fieldsW k).length] 300 (0, 0)) ∧ w.heap[ba]? = some (.cells ((fieldsW k).map (at0c bc)).toArray 301 (0, 0))
theorem WordAt.below {bc B0 k : Nat} {seen : Bool} {w : World} {b : Nat} (h : WordAt bc B0 k seen w b) : WordB w.heap.size bc B0 k seen w b := by
  have hlt := h.lt
  refine ⟨hlt, ?_⟩
  unfold WordAt at h
  split at h
  · rename_i hk; rw [if_pos hk]; exact h
  · rename_i hk
    rw [if_neg hk]
    obtain ⟨bl, ba, h1, h2, h3⟩ := h
    exact ⟨bl, ba, lt_of_block h2, lt_of_block h3, h1, h2, h3⟩
theorem WordB.keep {S : Nat → Prop} {base bc B0 k : Nat} {seen : Bool} {w w' : World} {b : Nat} (h : WordB base bc B0 k seen w b) (hm : Mod S w w') (hS : ∀ x c t, x < base → w.heap[x]? = some (.cells c t (0, 0)) → (t = 225 ∨ t = 300 ∨ t = 301) → ¬ S x) : WordB base bc B0 k seen w' b := by
  obtain ⟨hb, h⟩ := h
  refine ⟨hb, ?_⟩
  split
  · rename_i hk
    rw [if_pos hk] at h
    exact hm.heap h (hS _ _ _ hb h (Or.inl rfl))
  · rename_i hk
    rw [if_neg hk] at h
    obtain ⟨bl, ba, l1, l2, h1, h2, h3⟩ := h
    exact ⟨bl, ba, l1, l2, hm.heap h1 (hS _ _ _ hb h1 (Or.inl rfl)), hm.heap h2 (hS _ _ _ l1 h2 (Or.inr (Or.inl rfl))), hm.heap h3 (hS _ _ _ l2 h3 (Or.inr (Or.inr rfl)))⟩

/-- What conf.line works on. -/
structure CM (base bc B0 bM : Nat) (b : Nat → Nat) (order : List Nat) (st : St) (w : World) : Prop where
  map : w.heap[bM]? = some (.map (ents (fun k => at0c (b k) 0) order).toArray order.length)
  nodup : order.Nodup
  all : ∀ k, k ∈ order ↔ k < 5
  box : w.heap[B0]? = some (.cells #[at0c bc 0] 199 (0, 0))
  word : ∀ k, k < 5 → WordB base bc B0 k (st.2 k) w (b k)
  apart : ∀ j k, j < 5 → k < 5 → j ≠ k → b j ≠ b k
  cfg : CfgAt base bc st.1 w
  low : bc < base ∧ B0 < base ∧ bM < base
  ahead : bc < B0 ∧ B0 < bM ∧ ∀ k, k < 5 → bc < b k
  size : base ≤ w.heap.size
theorem CM.keep {base bc B0 bM : Nat} {b : Nat → Nat} {order : List Nat} {st : St} {w w' : World} (h : CM base bc B0 bM b order st w) (hm : Mod NoB w w') : CM base bc B0 bM b order st w' :=
  ⟨hm.heap h.map id, h.nodup, h.all, hm.heap h.box id, fun k hk => (h.word k hk).keep hm (fun _ _ _ _ _ _ f => f.elim), h.apart, let ⟨v, h1, h2⟩ := h.cfg; ⟨v, hm.heap h1 id, ownsRow_mod h2 hm (fun _ f => f.elim)⟩, h.low, h.ahead, Nat.le_trans h.size hm.size⟩
end Go.Proofs.YtjlilmonpklghaaGreatDoor

namespace Go.Proofs.YtjlilmonpklghaaGreatDoor
open Go.RowKit

/-- Ints that a builder's writes leave alone: they lie in a row of ints. -/
def IntsK (w : World) (p : Option Addr) (xs : List Int) : Prop := IntsL w p xs ∧ ∀ b off, p = some ⟨b, off, none⟩ → ∃ c f, w.heap[b]? = some (.cells c 3 f)
theorem IntsK.keep {base b : Nat} {w w' : World} {p : Option Addr} {xs : List Int} {T : TypeId} {cs : Array Value} {f0 : Nat × Nat} (h : IntsK w p xs) (hb : w.heap[b]? = some (.cells cs T f0)) (hT : T ≠ 3) (hm : KeepB base b w w') : IntsK w' p xs := by
  have hS : ∀ x off, p = some ⟨x, off, none⟩ → ¬ (x = b ∨ (base ≤ x ∧ ∃ c f, w.heap[x]? = some (.cells c 5 f))) := by
    intro x off e
    obtain ⟨c, f, hc⟩ := h.2 x off e
    rintro (rfl | ⟨_, c', f', hc'⟩)
    · rw [hb] at hc; simp at hc; exact hT hc.2.1
    · rw [hc] at hc'; simp at hc'
  refine ⟨h.1.mod hm hS, fun x off e => ?_⟩
  obtain ⟨c, f, hc⟩ := h.2 x off e
  exact ⟨c, f, Mod.heap hm hc (hS x off e)⟩
theorem BldAt.mod {base b : Nat} {l : List UInt8} {w w' : World} (h : BldAt base b l w) (hm : Mod NoB w w') : BldAt base b l w' := by
  rcases h with ⟨h1, v, h2, h3, h4⟩ | ⟨h1, v, h2, h3, h4⟩
  · exact Or.inl ⟨h1, v, hm.heap h2 id, ownsRow_mod h3 hm (fun _ f => f.elim), h4⟩
  · exact Or.inr ⟨h1, v, hm.heap h2 id, ownsRow_mod h3 hm (fun _ f => f.elim), h4⟩
theorem BldAt.block {base b : Nat} {l : List UInt8} {w : World} (h : BldAt base b l w) : ∃ cs, w.heap[b]? = some (.cells cs 331 (0, 0)) := by
  rcases h with ⟨_, v, h, _⟩ | ⟨_, v, h, _⟩
  · exact ⟨_, h⟩
  · exact ⟨_, h⟩

end Go.Proofs.YtjlilmonpklghaaGreatDoor

namespace Go.Proofs.YtjlilmonpklghaaGreatDoor
open Go.RowKit

theorem srvErr_pre {xs : List Int} : ∀ {n : Nat}, srvErr xs n = 0 → ∀ k, k < n → 1 ≤ xs.getD k 0 ∧ xs.getD k 0 ≤ 65535 ∧ inI (xs.take k) (xs.getD k 0) = false := by
  intro n
  induction n with
  | zero => intro _ k hk; omega
  | succ n ih =>
    intro h k hk
    by_cases h0 : srvErr xs n = 0
    · by_cases hkn : k < n
      · exact ih h0 k hkn
      · obtain rfl : k = n := by omega
        cases hb : inB3 (xs.getD k 0) 1 65535 with
        | false => rw [srv_low h0 hb] at h; simp at h
        | true =>
          cases hi : inI (xs.take k) (xs.getD k 0) with
          | true => rw [srv_twice h0 hb hi] at h; simp at h
          | false => exact ⟨(inB3_true hb).1, (inB3_true hb).2, rfl⟩
    · rw [srvErr, if_pos h0] at h
      exact absurd h h0
/-- What a checked config is. -/
structure Fine (xs : List Int) (q l m d s : Int) : Prop where
  some_ : 1 ≤ xs.length
  few : xs.length ≤ 16
  srv : srvErr xs xs.length = 0
  num : numErr xs.length q l m d s = 0
theorem check_fine {xs : List Int} {q l m d s : Int} (h : checkR xs q l m d s = 0) : Fine xs q l m d s := by
  unfold checkR at h
  split at h
  · simp at h
  · split at h
    · simp at h
    · split at h
      · rename_i h3; exact absurd h h3
      · rename_i h1 h2 h3
        exact ⟨by omega, by omega, by simpa using h3, h⟩
theorem fine_nums {xs : List Int} {q l m d s : Int} (h : Fine xs q l m d s) : (4 ≤ l ∧ l ≤ 1024) ∧ (l ≤ m ∧ m ≤ 1024) ∧ (1 ≤ q ∧ q ≤ xs.length) ∧ (1 ≤ d ∧ d ≤ 1000 * l - 2000) ∧ (1 ≤ s ∧ s ≤ 500) := by
  have := h.num
  unfold numErr at this
  split at this
  · rename_i hh
    simp only [Bool.and_eq_true] at hh
    obtain ⟨⟨⟨⟨a, b⟩, c⟩, e⟩, f⟩ := hh
    exact ⟨inB3_true a, inB3_true b, inB3_true c, inB3_true e, inB3_true f⟩
  · simp at this

/-- Behind an alloc of the builder, what is kept of it keeps all that was. -/
theorem KeepB.old {w w' : World} {o : Obj} (h : KeepB w.heap.size w.heap.size (w.alloc o) w') : Mod NoB w w' :=
  ⟨h.os, h.tape, h.output, Nat.le_trans ((Mod.refl NoB w).alloc o).size h.size, fun x hx _ => by
    have := h.block x (Nat.lt_of_lt_of_le hx ((Mod.refl NoB w).alloc o).size) (by rintro (e | ⟨e, _⟩) <;> omega)
    rw [this, heap_alloc_old hx]⟩
end Go.Proofs.YtjlilmonpklghaaGreatDoor

namespace Go.Proofs.YtjlilmonpklghaaGreatDoor
open Go.ChangeShapes Go.WideShapes Go.ChangeAt Go.RowKit

theorem laidS_of {W : World} {l : List (String × DataW Unit)} (hm : ("strings.asciiSpace", Rows.laid_strings_asciiSpace) ∈ l) (h : laidMet Tryz.prog l W) : LaidS W :=
  laid_tab gSpace (t := 348) (e := 5) (n := 256) (by kernel_rfl) Tryz.underlying348 Tryz.underlying5 (by kernel_rfl) (by kernel_rfl) h (by rw [show Lib.tabData .u8 Lib.asciiSpaceTab = Rows.laid_strings_asciiSpace by kernel_rfl]; exact hm)

theorem open_bs {H : Type} {enc : TypeId × Value → H} {P : Program} {w : World} {r : Reach} {b0 : Nat} {t : TypeId} {v : Value} {d : DataW H} {ps : List MemPlace} (ht : P.underlying t = some .string) (hval : Value.okWide P w r b0 t v) (hd : DataW.Trod enc P w 0 (fun _ => true) true t v d ps) :
    ∃ l : List UInt8, v = .string (bs l) ∧ l.length ≤ 9223372036854775807 := by
  obtain ⟨s, rfl, _, _, h⟩ := Go.ChangeMaps.open_string ht hval hd
  exact ⟨s.data.toList, rfl, h⟩
end Go.Proofs.YtjlilmonpklghaaGreatDoor

namespace Go.Proofs.YtjlilmonpklghaaGreatDoor
open Go.RowKit

theorem dig_of {u : Nat} (h : u < 10) : isDig (UInt8.ofNat (48 + u)) = true ∧ (UInt8.ofNat (48 + u)).toNat = 48 + u := by
  have h2 : (UInt8.ofNat (48 + u)).toNat = 48 + u := by simp; omega
  refine ⟨?_, h2⟩
  unfold isDig
  rw [h2]
  simp; omega
/-- What is asked of a number's digits. -/
structure DigOk (u : Nat) (l : List UInt8) : Prop where
  ne : l ≠ []
  all : l.all isDig = true
  val : decV l = u
  head : 1 < l.length → l.head? ≠ some 48
  zero : l.head? = some 48 → u = 0
theorem decDigits_ok (u : Nat) : DigOk u (Lib.decDigits u) := by
  induction u using Nat.strongRecOn with
  | _ u ih =>
    rw [Lib.decDigits]
    split
    · rename_i h
      obtain ⟨d1, d2⟩ := dig_of h
      refine ⟨by simp, by rw [List.all_cons, d1]; rfl, ?_, by simp, ?_⟩
      · show decFromV 0 [_] = u
        rw [decFromV_cons, d2]
        show 10 * 0 + (48 + u - 48) = u
        omega
      · intro e
        simp only [List.head?_cons, Option.some.injEq] at e
        have := congrArg UInt8.toNat e
        rw [d2] at this
        have h48 : (48 : UInt8).toNat = 48 := rfl
        omega
    · rename_i h
      have hi := ih (u / 10) (by omega)
      obtain ⟨d1, d2⟩ := dig_of (u := u % 10) (by omega)
      have hh : (Lib.decDigits (u / 10) ++ [UInt8.ofNat (48 + u % 10)]).head? = (Lib.decDigits (u / 10)).head? := by
        have := hi.ne
        cases hd : Lib.decDigits (u / 10) with
        | nil => exact absurd hd this
        | cons b r => rfl
      have hz : (Lib.decDigits (u / 10)).head? ≠ some 48 := fun e => by have := hi.zero e; omega
      refine ⟨by simp, by rw [List.all_append, hi.all, List.all_cons, d1]; rfl, ?_, fun _ => by rw [hh]; exact hz, fun e => absurd (hh ▸ e) hz⟩
      show decFromV 0 (_ ++ [_]) = u
      rw [decFromV_app, d2]
      have := hi.val
      unfold decV at this
      rw [this]
      omega
theorem numB_dec (u : Nat) : numB (Lib.decDigits u) = true := by
  obtain ⟨h1, h2, h3, h4, h5⟩ := decDigits_ok u
  unfold numB
  rw [h2]
  simp only [Bool.and_true, Bool.and_eq_true, Bool.not_eq_true', List.isEmpty_eq_false_iff]
  refine ⟨h1, ?_⟩
  by_cases h : 1 < (Lib.decDigits u).length
  · simp [h4 h]
  · simp [h]
theorem numR_text {n : Int} (h0 : 0 ≤ n) (h1 : n ≤ 1000000000) : numR (textOf n) = (n, 0) := by
  have ht : textOf n = Lib.decDigits n.toNat := by unfold textOf; rw [if_neg (by omega)]
  rw [ht, numR_ok (numB_dec _) (by rw [(decDigits_ok n.toNat).val]; omega), (decDigits_ok n.toNat).val]
  congr 1
  omega
theorem laidN_of {W : World} {l : List (String × DataW Unit)} (hm : ("strings.asciiSpace", Rows.laid_strings_asciiSpace) ∈ l) (hp : ("internal/strconv.uint64pow10", Rows.laid_internal_strconv_uint64pow10) ∈ l) (he : ("strconv.ErrRange", Rows.laid_strconv_ErrRange) ∈ l) (h : laidMet Tryz.prog l W) : LaidN W := by
  refine ⟨laidS_of hm h, laid_tab gPow (t := 422) (e := 30) (n := 20) (by kernel_rfl) Tryz.underlying422 Tryz.underlying30 (by kernel_rfl) (by kernel_rfl) h (by rw [show Lib.tabData .u64 Lib.pow10Tab = Rows.laid_internal_strconv_uint64pow10 by kernel_rfl]; exact hp), ?_⟩
  obtain ⟨g, t, cs, fuel, p, hg, hty, hvar, hd⟩ := laid_var h he
  obtain rfl := Option.some.inj (gErrR.symm.trans hg)
  have hty2 : (Tryz.prog.globals[10]?).map (·.type) = some 261 := by kernel_rfl
  obtain rfl := Option.some.inj (hty2.symm.trans hty)
  obtain ⟨_, u, v, hcs, _⟩ := iface_of_trod Tryz.underlying261 hd
  refine ⟨u, v, ?_⟩
  rw [hvar]
  congr 1
  exact Array.ext' hcs
end Go.Proofs.YtjlilmonpklghaaGreatDoor

namespace Go.Proofs.YtjlilmonpklghaaGreatDoor
open Go.RowKit

/-- Texts, a byte 10 between. -/
def nl : List (List UInt8) → List UInt8
  | [] => []
  | [s] => s
  | s :: t :: r => s ++ 10 :: nl (t :: r)
theorem fieldsGo_split {c : UInt8} (hc : Lib.isSp c = true) (b : List UInt8) : ∀ (a acc : List UInt8), Lib.fieldsGo acc (a ++ c :: b) = Lib.fieldsGo acc a ++ Lib.fieldsGo [] b := by
  intro a
  induction a with
  | nil => intro acc; rw [List.nil_append, go_sp hc, go_end]
  | cons x a ih =>
    intro acc
    rw [List.cons_append]
    cases hx : Lib.isSp x with
    | true => rw [go_sp hx, go_sp hx, ih, List.append_assoc]
    | false => rw [go_on hx, go_on hx, ih]
theorem fields_split {c : UInt8} (hc : Lib.isSp c = true) (a b : List UInt8) : Lib.fields (a ++ c :: b) = Lib.fields a ++ Lib.fields b := fieldsGo_split hc b a []
theorem fields_sp (x : List UInt8) : ∀ s : List UInt8, (∀ b ∈ s, Lib.isSp b = true) → Lib.fields (s ++ x) = Lib.fields x := by
  intro s
  induction s with
  | nil => intro _; rfl
  | cons c s ih =>
    intro h
    have := fieldsGo_split (h c (by simp)) (s ++ x) [] []
    rw [List.nil_append] at this
    show Lib.fieldsGo [] (c :: (s ++ x)) = _
    rw [this, go_end]
    exact ih (fun b hb => h b (by simp [hb]))

/-- What stands between words. -/
structure Blank (s : List UInt8) : Prop where
  ne : s ≠ []
  sp : ∀ b ∈ s, b = 32 ∨ b = 9
  len : s.length ≤ 3
theorem Blank.isSp {s : List UInt8} (h : Blank s) : ∀ b ∈ s, Lib.isSp b = true := fun b hb => by
  rcases h.sp b hb with rfl | rfl <;> rfl
theorem blank_word {cur s x : List UInt8} (hs : Blank s) : Lib.fields (cur ++ (s ++ x)) = Lib.fields cur ++ Lib.fields x := by
  obtain ⟨c, r, rfl⟩ : ∃ c r, s = c :: r := by
    cases s with
    | nil => exact absurd rfl hs.ne
    | cons c r => exact ⟨c, r, rfl⟩
  rw [List.cons_append, fields_split (hs.isSp c (by simp)), fields_sp x r (fun b hb => hs.isSp b (by simp [hb]))]

theorem dig_bytes {b : UInt8} (h : isDig b = true) : Lib.isSp b = false ∧ okB b = true ∧ b ≠ 10 ∧ b ≠ 35 := by
  have : ∀ n, n < 256 → isDig (UInt8.ofNat n) = true → Lib.isSp (UInt8.ofNat n) = false ∧ okB (UInt8.ofNat n) = true ∧ UInt8.ofNat n ≠ 10 ∧ UInt8.ofNat n ≠ 35 := by decide +kernel
  have h2 := this b.toNat b.toNat_lt
  rw [UInt8.ofNat_toNat] at h2
  exact h2 h

/-- A line so far: of words ws, no remark yet. -/
structure Cur (s : List UInt8) (ws : List (List UInt8)) : Prop where
  fields : Lib.fields s = ws
  ok : s.all okB = true
  no10 : (10 : UInt8) ∉ s
  no35 : (35 : UInt8) ∉ s
theorem Cur.nil : Cur [] [] := ⟨rfl, rfl, by simp, by simp⟩
theorem Blank.all {s : List UInt8} (h : Blank s) : s.all okB = true ∧ (10 : UInt8) ∉ s ∧ (35 : UInt8) ∉ s := by
  refine ⟨List.all_eq_true.2 fun b hb => ?_, fun hb => ?_, fun hb => ?_⟩
  · rcases h.sp b hb with rfl | rfl <;> rfl
  · rcases h.sp _ hb with h | h <;> exact absurd h (by decide)
  · rcases h.sp _ hb with h | h <;> exact absurd h (by decide)
theorem Cur.word {s b x : List UInt8} {ws : List (List UInt8)} (h : Cur s ws) (hb : Blank b) (hx : x ≠ []) (hd : x.all isDig = true) : Cur (s ++ (b ++ x)) (ws ++ [x]) := by
  have hd' := fun c hc => dig_bytes (List.all_eq_true.1 hd c hc)
  refine ⟨by rw [blank_word hb, h.fields, fields_word x (fun c hc => (hd' c hc).1) hx], ?_, ?_, ?_⟩
  · rw [List.all_append, List.all_append, h.ok, hb.all.1]
    simp only [Bool.true_and]
    exact List.all_eq_true.2 fun c hc => (hd' c hc).2.1
  · simp only [List.mem_append, not_or]
    exact ⟨h.no10, hb.all.2.1, fun hc => (hd' _ hc).2.2.1 rfl⟩
  · simp only [List.mem_append, not_or]
    exact ⟨h.no35, hb.all.2.2, fun hc => (hd' _ hc).2.2.2 rfl⟩
/-- A line that is done. -/
structure Done (s : List UInt8) (ws : List (List UInt8)) : Prop where
  fields : Lib.fields (upTo s 35) = ws
  ok : (upTo s 35).all okB = true
  no10 : (10 : UInt8) ∉ s
theorem Cur.done {s : List UInt8} {ws : List (List UInt8)} (h : Cur s ws) : Done s ws := by
  have := upTo_all h.no35
  exact ⟨by rw [this]; exact h.fields, by rw [this]; exact h.ok, h.no10⟩
end Go.Proofs.YtjlilmonpklghaaGreatDoor

namespace Go.Proofs.YtjlilmonpklghaaGreatDoor
open Go.RowKit

/-- The first line with a byte that may not be. -/
def badAt (l : List UInt8) : Option Nat := (List.range (partsN 10 l)).find? fun j => !okLine l j
theorem badAt_some {l : List UInt8} {j : Nat} (h1 : j < partsN 10 l) (h2 : okLine l j = false) (h3 : ∀ i, i < j → okLine l i = true) : badAt l = some j := by
  unfold badAt
  rw [List.find?_eq_some_iff_getElem]
  refine ⟨by simp [h2], j, by simpa using h1, by simp, fun i hi => ?_⟩
  simp [h3 i hi]
theorem badAt_none {l : List UInt8} (h : ∀ i, i < partsN 10 l → okLine l i = true) : badAt l = none := by
  unfold badAt
  rw [List.find?_eq_none]
  intro i hi
  simp [h i (by simpa using hi)]

def seenAll (s : Nat → Bool) : Bool := s 0 && s 1 && s 2 && s 3 && s 4
theorem seenAll_true {s : Nat → Bool} (h : ∀ k, k < 5 → s k = true) : seenAll s = true := by
  simp [seenAll, h]
theorem seenAll_false {s : Nat → Bool} {k : Nat} (hk : k < 5) (h : s k = false) : seenAll s = false := by
  rcases bounds5 k hk with rfl | rfl | rfl | rfl | rfl <;> simp [seenAll, h]

/-- Lines in turn, up to the first error: the line, the error, what has come of it. -/
def linesR : List (Nat × List (List UInt8)) → St → Int × Int × St
  | [], st => (0, 0, st)
  | (n, ws) :: r, st => if (lineR ws st).1 = 0 then linesR r (lineR ws st).2 else ((n : Int), (lineR ws st).1, st)
theorem linesR_ok {n : Nat} {ws : List (List UInt8)} {r : List (Nat × List (List UInt8))} {st : St} (h : (lineR ws st).1 = 0) : linesR ((n, ws) :: r) st = linesR r (lineR ws st).2 := by
  rw [linesR, if_pos h]
theorem linesR_bad {n : Nat} {ws : List (List UInt8)} {r : List (Nat × List (List UInt8))} {st : St} (h : (lineR ws st).1 ≠ 0) : linesR ((n, ws) :: r) st = ((n : Int), (lineR ws st).1, st) := by
  rw [linesR, if_neg h]
theorem linesR_app : ∀ (L M : List (Nat × List (List UInt8))) (st : St), (linesR L st).2.1 = 0 → linesR (L ++ M) st = linesR M (linesR L st).2.2 := by
  intro L
  induction L with
  | nil => intro M st _; rfl
  | cons x L ih =>
    intro M st h
    obtain ⟨n, ws⟩ := x
    by_cases h0 : (lineR ws st).1 = 0
    · rw [linesR_ok h0] at h
      rw [List.cons_append, linesR_ok h0, linesR_ok h0]
      exact ih M _ h
    · rw [linesR_bad h0] at h
      exact absurd h h0

def cfg0 : Cfg := ⟨[], 0, 0, 0, 0, 0⟩
def st0 : St := (cfg0, fun _ => false)
def checkC (a : Cfg) : Int := checkR a.srv a.q a.l a.m a.d a.s
def endR (x : Int × Int × St) : Cfg × Int × Int :=
  if x.2.1 ≠ 0 then (cfg0, x.1, x.2.1) else if seenAll x.2.2.2 = false then (cfg0, 0, 13) else if checkC x.2.2.1 ≠ 0 then (cfg0, 0, checkC x.2.2.1) else (x.2.2.1, 0, 0)
/-- What a text comes to: the config, the line, the error. -/
def parseR (l : List UInt8) : Cfg × Int × Int :=
  if 65536 < l.length then (cfg0, 0, 7) else
  match badAt l with
  | some j => (cfg0, ((j + 1 : Nat) : Int), 6)
  | none => endR (linesR (linesTo l (partsN 10 l)) st0)
theorem parseR_long {l : List UInt8} (h : 65536 < l.length) : parseR l = (cfg0, 0, 7) := if_pos h
theorem parseR_bad {l : List UInt8} (h : ¬ 65536 < l.length) {j : Nat} (hb : badAt l = some j) : parseR l = (cfg0, ((j + 1 : Nat) : Int), 6) := by
  unfold parseR
  rw [if_neg h, hb]
theorem parseR_lines {l : List UInt8} (h : ¬ 65536 < l.length) (hb : badAt l = none) : parseR l = endR (linesR (linesTo l (partsN 10 l)) st0) := by
  unfold parseR
  rw [if_neg h, hb]
theorem endR_err {x : Int × Int × St} (h : x.2.1 ≠ 0) : endR x = (cfg0, x.1, x.2.1) := if_pos h
theorem endR_lack {x : Int × Int × St} (h : x.2.1 = 0) (h2 : seenAll x.2.2.2 = false) : endR x = (cfg0, 0, 13) := by
  unfold endR
  rw [if_neg (by simp [h]), if_pos h2]
theorem endR_check {x : Int × Int × St} (h : x.2.1 = 0) (h2 : seenAll x.2.2.2 = true) (h3 : checkC x.2.2.1 ≠ 0) : endR x = (cfg0, 0, checkC x.2.2.1) := by
  unfold endR
  rw [if_neg (by simp [h]), if_neg (by simp [h2]), if_pos h3]
theorem endR_ok {x : Int × Int × St} (h : x.2.1 = 0) (h2 : seenAll x.2.2.2 = true) (h3 : checkC x.2.2.1 = 0) : endR x = (x.2.2.1, 0, 0) := by
  unfold endR
  rw [if_neg (by simp [h]), if_neg (by simp [h2]), if_neg (by simp [h3])]

end Go.Proofs.YtjlilmonpklghaaGreatDoor

