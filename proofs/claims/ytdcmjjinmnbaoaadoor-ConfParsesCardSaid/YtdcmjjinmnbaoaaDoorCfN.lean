/- conf.line: what it answers, and what it works on. -/
import Derived.Test.YtdcmjjinmnbaoaaDoorCfC
import Derived.Test.YtdcmjjinmnbaoaaDoorCfI
namespace Go.Proofs.YtdcmjjinmnbaoaaDoor
open Go.RowKit

/-- Which word is it? -/
def keyOf (s : List UInt8) : Option Nat := (List.range 5).find? fun k => keyW k == s
theorem keyOf_some {s : List UInt8} {k : Nat} (h : keyOf s = some k) : k < 5 ∧ keyW k = s := by
  unfold keyOf at h
  exact ⟨by simpa using List.mem_of_find?_eq_some h, by simpa using List.find?_some h⟩
theorem keyOf_none {s : List UInt8} (h : keyOf s = none) : ∀ k, k < 5 → keyW k ≠ s := by
  unfold keyOf at h
  intro k hk
  have := List.find?_eq_none.1 h k (by simpa using hk)
  simpa using this
theorem keyOf_keyW {k : Nat} (h : k < 5) : keyOf (keyW k) = some k := by
  have : ∀ k, k < 5 → keyOf (keyW k) = some k := by decide
  exact this k h
/-- The first error among words that are to be numbers. -/
def numsE : List (List UInt8) → Int
  | [] => 0
  | s :: r => if (numR s).2 = 0 then numsE r else (numR s).2
theorem numsE_at : ∀ {ws : List (List UInt8)} {i : Nat}, (∀ j, j < i → (numR (ws.getD j [])).2 = 0) → i < ws.length → (numR (ws.getD i [])).2 ≠ 0 → numsE ws = (numR (ws.getD i [])).2 := by
  intro ws
  induction ws with
  | nil => intro i _ h; simp at h
  | cons s r ih =>
    intro i h hi hne
    cases i with
    | zero => simp at hne ⊢; rw [numsE, if_neg hne]
    | succ i =>
      have h0 := h 0 (by omega)
      simp at h0
      rw [numsE, if_pos h0]
      have := ih (i := i) (fun j hj => by have := h (j + 1) (by omega); simpa using this) (by simp at hi; omega) (by simpa using hne)
      simpa using this
theorem numsE_all : ∀ {ws : List (List UInt8)}, (∀ j, j < ws.length → (numR (ws.getD j [])).2 = 0) → numsE ws = 0 := by
  intro ws
  induction ws with
  | nil => intro _; rfl
  | cons s r ih =>
    intro h
    have h0 := h 0 (by simp)
    simp at h0
    rw [numsE, if_pos h0]
    exact ih fun j hj => by have := h (j + 1) (by simp; omega); simpa using this
/-- A config, and which words were seen. -/
abbrev St := Cfg × (Nat → Bool)
def putF (a : Cfg) (k : Nat) (xs : List Int) : Cfg :=
  match k with
  | 1 => { a with q := xs.getD 0 0 }
  | 2 => { a with l := xs.getD 0 0, m := xs.getD 1 0 }
  | 3 => { a with d := xs.getD 0 0 }
  | 4 => { a with s := xs.getD 0 0 }
  | _ => a
def takeR (k : Nat) (xs : List Int) (st : St) : Int × St :=
  if k = 0 then (if inI st.1.srv (xs.getD 0 0) = true then (12, st) else if st.1.srv.length = 16 then (11, st) else (0, ({ st.1 with srv := st.1.srv ++ [xs.getD 0 0] }, st.2)))
  else (0, (putF st.1 k xs, st.2))
def lineK (k : Nat) (ws : List (List UInt8)) (st : St) : Int × St :=
  if (ws.length : Int) ≠ 1 + manyW k then (6, st) else if numsE (ws.drop 1) ≠ 0 then (numsE (ws.drop 1), st)
  else if st.2 k = true ∧ k ≠ 0 then (12, st) else takeR k ((ws.drop 1).map fun s => (numR s).1) (st.1, upd st.2 k true)
/-- What a line does. -/
def lineR (ws : List (List UInt8)) (st : St) : Int × St := match keyOf (ws.getD 0 []) with
  | none => (10, st)
  | some k => lineK k ws st

/-- A word's block, and what hangs on it, below base. -/
def WordB (base bc B0 : Nat) (k : Nat) (seen : Bool) (w : World) (b : Nat) : Prop :=
  b < base ∧ if k = 0 then w.heap[b]? = some (.cells #[.int .i64 1, .bool true, .bool seen, fServer B0] 55 (0, 0))
  else ∃ bl ba, bl < base ∧ ba < base ∧ w.heap[b]? = some (.cells #[.int .i64 (fieldsW k).length, .bool false, .bool seen, fTake bl] 55 (0, 0)) ∧
    w.heap[bl]? = some (.cells #[.slice (some ⟨ba, 0, none⟩) (fieldsW k).length (fieldsW k).length] 86 (0, 0)) ∧ w.heap[ba]? = some (.cells ((fieldsW k).map (at0c bc)).toArray 87 (0, 0))
theorem WordAt.below {bc B0 k : Nat} {seen : Bool} {w : World} {b : Nat} (h : WordAt bc B0 k seen w b) : WordB w.heap.size bc B0 k seen w b := by
  have hlt := h.lt
  refine ⟨hlt, ?_⟩
  unfold WordAt at h
  split at h
  · rename_i hk; rw [if_pos hk]; exact h
  · rename_i hk
    rw [if_neg hk]
    obtain ⟨bl, ba, h1, h2, h3⟩ := h
    exact ⟨bl, ba, lt_of_block h2, lt_of_block h3, h1, h2, h3⟩
theorem WordB.keep {S : Nat → Prop} {base bc B0 k : Nat} {seen : Bool} {w w' : World} {b : Nat} (h : WordB base bc B0 k seen w b) (hm : Mod S w w') (hS : ∀ x c t, x < base → w.heap[x]? = some (.cells c t (0, 0)) → (t = 55 ∨ t = 86 ∨ t = 87) → ¬ S x) : WordB base bc B0 k seen w' b := by
  obtain ⟨hb, h⟩ := h
  refine ⟨hb, ?_⟩
  split
  · rename_i hk
    rw [if_pos hk] at h
    exact hm.heap h (hS _ _ _ hb h (Or.inl rfl))
  · rename_i hk
    rw [if_neg hk] at h
    obtain ⟨bl, ba, l1, l2, h1, h2, h3⟩ := h
    exact ⟨bl, ba, l1, l2, hm.heap h1 (hS _ _ _ hb h1 (Or.inl rfl)), hm.heap h2 (hS _ _ _ l1 h2 (Or.inr (Or.inl rfl))), hm.heap h3 (hS _ _ _ l2 h3 (Or.inr (Or.inr rfl)))⟩

/-- What conf.line works on. -/
structure CM (base bc B0 bM : Nat) (b : Nat → Nat) (order : List Nat) (st : St) (w : World) : Prop where
  map : w.heap[bM]? = some (.map (ents (fun k => at0c (b k) 0) order).toArray order.length)
  nodup : order.Nodup
  all : ∀ k, k ∈ order ↔ k < 5
  box : w.heap[B0]? = some (.cells #[at0c bc 0] 46 (0, 0))
  word : ∀ k, k < 5 → WordB base bc B0 k (st.2 k) w (b k)
  apart : ∀ j k, j < 5 → k < 5 → j ≠ k → b j ≠ b k
  cfg : CfgAt base bc st.1 w
  low : bc < base ∧ B0 < base ∧ bM < base
  ahead : bc < B0 ∧ B0 < bM ∧ ∀ k, k < 5 → bc < b k
  size : base ≤ w.heap.size
theorem CM.keep {base bc B0 bM : Nat} {b : Nat → Nat} {order : List Nat} {st : St} {w w' : World} (h : CM base bc B0 bM b order st w) (hm : Mod NoB w w') : CM base bc B0 bM b order st w' :=
  ⟨hm.heap h.map id, h.nodup, h.all, hm.heap h.box id, fun k hk => (h.word k hk).keep hm (fun _ _ _ _ _ _ f => f.elim), h.apart, let ⟨v, h1, h2⟩ := h.cfg; ⟨v, hm.heap h1 id, ownsRow_mod h2 hm (fun _ f => f.elim)⟩, h.low, h.ahead, Nat.le_trans h.size hm.size⟩
end Go.Proofs.YtdcmjjinmnbaoaaDoor
