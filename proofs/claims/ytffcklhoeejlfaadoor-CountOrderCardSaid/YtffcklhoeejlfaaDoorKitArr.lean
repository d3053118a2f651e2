/- Arrays of integers by value: an element, and '=='. -/
import Derived.Test.YtffcklhoeejlfaaDoorKit
namespace Go.Proofs.YtffcklhoeejlfaaDoor
open Go.RowKit

theorem run_index_arr {P : Program} {t e : TypeId} {n : Nat} {k : IntKind} (ht : P.underlying t = some (.array n e)) (he : P.underlying e = some (.int k)) (hs : (P.info? e).map (·.size) = some 1)
    (c : List Value) (hl : c.length = n) (i : Nat) (v : Value) (hv : c[i]? = some v) (w : World) :
    (Instr.index t (.agg c.toArray) (.int .i64 i)).run P w = .ok v w := by
  have hi : i < n := by
    rcases Nat.lt_or_ge i n with h | h
    · exact h
    · rw [List.getElem?_eq_none (by omega)] at hv; cases hv
  cases hq : P.info? e with
  | none => simp [hq] at hs
  | some q =>
    have hq1 : q.size = 1 := by simpa [hq] using hs
    have hagg : (isAgg e).run P w = .ok false w := by
      unfold isAgg
      rw [Sem.run_bind, run_underlying he w]
      rfl
    unfold Instr.index
    simp only [go_sem]
    simp [run_underlying ht, hi, sizeOf, typeInfo, hq, hq1, hagg, hv, go_sem]


/-- '==' of two arrays of integers. -/
theorem run_equalIn_arr {P : Program} {t e : TypeId} {n : Nat} {k : IntKind} (ht : P.underlying t = some (.array n e)) (he : P.underlying e = some (.int k)) (hs : (P.info? e).map (·.size) = some 1)
    (xs ys : List Int) (hx : xs.length = n) (hy : ys.length = n) (d : Nat) (w : World) :
    (Op.equalIn (d + 2) t (.agg (xs.map (Value.int k)).toArray) (.agg (ys.map (Value.int k)).toArray)).run P w = .ok (decide (xs = ys)) w := by
  cases hq : P.info? e with
  | none => simp [hq] at hs
  | some q =>
    have hq1 : q.size = 1 := by simpa [hq] using hs
    have hagg : ∀ w, (isAgg e).run P w = .ok false w := by
      intro w
      unfold isAgg
      rw [Sem.run_bind, run_underlying he w]
      rfl
    rw [Op.equalIn]
    simp [run_underlying ht, sizeOf, typeInfo, hq, hq1, go_sem]
    generalize hb : (fun (i : Nat) (__s : Option Bool × Unit) => (_ : Sem (ForInStep (Option Bool × Unit)))) = body
    have step : ∀ i, i < n → (body i (none, ())).run P w = .ok (if xs[i]? = ys[i]? then ForInStep.yield (none, ()) else ForInStep.done (some false, ())) w := by
      intro i hi
      rw [← hb]
      have e1 : xs[i]? = some (xs[i]'(by omega)) := List.getElem?_eq_getElem (by omega)
      have e2 : ys[i]? = some (ys[i]'(by omega)) := List.getElem?_eq_getElem (by omega)
      simp [hagg, e1, e2, go_sem]
      simp [run_equalIn_int w d e k k _ _ he]
      split <;> simp_all
    have key : ∀ m s, s + m = n → (forIn (List.range' s m) (none, ()) body).run P w = .ok (if xs.drop s = ys.drop s then (none, ()) else (some false, ())) w := by
      intro m
      induction m with
      | zero => intro s h; simp [List.drop_eq_nil_of_le, hx, hy, show n ≤ s by omega]
      | succ m ih =>
        intro s h
        have c1 : xs.drop s = xs[s]'(by omega) :: xs.drop (s + 1) := List.drop_eq_getElem_cons (by omega)
        have c2 : ys.drop s = ys[s]'(by omega) :: ys.drop (s + 1) := List.drop_eq_getElem_cons (by omega)
        have e1 : xs[s]? = some (xs[s]'(by omega)) := List.getElem?_eq_getElem (by omega)
        have e2 : ys[s]? = some (ys[s]'(by omega)) := List.getElem?_eq_getElem (by omega)
        rw [List.range'_succ, List.forIn_cons, Sem.run_bind, step s (by omega), c1, c2, e1, e2]
        by_cases hxy : xs[s]'(by omega) = ys[s]'(by omega)
        · simp only [hxy, if_true, Result.andThen_ok, List.cons.injEq, true_and]
          exact ih (s + 1) (by omega)
        · rw [if_neg (by simpa using hxy), if_neg (fun hh => hxy (List.cons.inj hh).1)]
          rfl
    rw [key n 0 (by omega)]
    by_cases h : xs = ys <;> simp [h]

theorem run_eql_arr {P : Program} {t e : TypeId} {n : Nat} {k : IntKind} (ht : P.underlying t = some (.array n e)) (he : P.underlying e = some (.int k)) (hs : (P.info? e).map (·.size) = some 1)
    (xs ys : List Int) (hx : xs.length = n) (hy : ys.length = n) (w : World) :
    (binOp .eql t (.agg (xs.map (Value.int k)).toArray) (.agg (ys.map (Value.int k)).toArray)).run P w = .ok (.bool (decide (xs = ys))) w := by
  rw [run_eql_struct, run_equalIn_arr ht he hs xs ys hx hy]
  rfl

end Go.Proofs.YtffcklhoeejlfaaDoor
