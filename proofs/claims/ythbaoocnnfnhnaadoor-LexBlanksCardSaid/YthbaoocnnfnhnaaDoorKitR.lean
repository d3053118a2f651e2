/- Regions that draw their order, by what holds of what is done so far: no order is walked. -/
import Derived.Test.YthbaoocnnfnhnaaDoorKitQ
namespace Go.Proofs.YthbaoocnnfnhnaaDoor
open Go.RowKit

section
variable {P : Program} {ops : Array Oper} {Q : Exit → Act → World → Prop}

/-- Each edge goes to an operation further up. -/
def upward (ops : Array Oper) : Bool := (List.range ops.size).all fun i => ((ops[i]?).map fun o => o.after.all fun e => !Region.binds .any e || decide (e.on < i)).getD true

theorem upward_spec (h : upward ops = true) {i : Nat} {o : Oper} (ho : ops[i]? = some o) : ∀ e ∈ o.after, Region.binds .any e = true → e.on < i := by
  intro e he hb
  unfold upward at h
  have h1 := List.all_eq_true.1 h i (List.mem_range.2 (Array.getElem?_eq_some_iff.1 ho).1)
  rw [ho] at h1
  simp only [Option.map_some, Option.getD_some] at h1
  have h2 := Array.all_eq_true_iff_forall_mem.1 h1 e he
  simpa [hb] using h2

/-- Nothing may come up any more: all is done. -/
theorem all_done (hup : upward ops = true) {listed : Array Bool} (hs : listed.size = ops.size) (h : Region.ready .any ops listed = []) : ∀ i, i < ops.size → listed.getD i true = true := by
  intro i
  induction i using Nat.strongRecOn with
  | _ i ih =>
    intro hi
    cases hl : listed.getD i true with
    | true => rfl
    | false =>
      exfalso
      have hmem : i ∈ Region.ready .any ops listed := by
        unfold Region.ready
        rw [List.mem_filter]
        refine ⟨List.mem_range.2 hi, ?_⟩
        have ho : ops[i]? = some ops[i] := by simp [hi]
        rw [hl, ho]
        simp only [Bool.not_false, Bool.true_and, Option.map_some, Option.getD_some]
        rw [Array.all_eq_true_iff_forall_mem]
        intro e he
        cases hb : Region.binds .any e with
        | false => rfl
        | true =>
          have hlt := upward_spec hup ho e he hb
          have := ih e.on hlt (by omega)
          have hlt2 : e.on < listed.size := by omega
          simp only [Bool.not_true, Bool.false_or]
          simpa [hlt2] using this
      rw [h] at hmem
      cases hmem

/-- What is done: listed. 'I' holds ahead; each operation that may come up keeps it; behind all of them it gives what is asked. -/
theorem wpAny_inv (hup : upward ops = true) (I : Array Bool → Act → World → Prop)
    (hstep : ∀ listed a w i o, listed.size = ops.size → I listed a w → ops[i]? = some o → listed.getD i true = false → (∀ e ∈ o.after, Region.binds .any e = true → listed.getD e.on false = true) →
      wpOp P ops Q i (I (listed.setIfInBounds i true)) a w)
    (hend : ∀ listed a w, listed.size = ops.size → (∀ i, i < ops.size → listed.getD i true = true) → I listed a w → Q .normal a w) :
    ∀ (fuel : Nat) (listed : Array Bool) (a : Act) (w : World), listed.size = ops.size → (∃ n, n ≤ fuel ∧ (listed.toList.count false) = n) → I listed a w → wpAny P .any ops Q fuel listed a w := by
  intro fuel
  induction fuel with
  | zero =>
    intro listed a w hs ⟨n, hn, hc⟩ hI
    obtain rfl : n = 0 := by omega
    have hall : ∀ i, i < ops.size → listed.getD i true = true := by
      intro i hi
      have h0 : false ∉ listed.toList := List.count_eq_zero.1 hc
      have hlt : i < listed.size := by omega
      cases hl : listed.getD i true with
      | true => rfl
      | false =>
        exfalso
        apply h0
        have : listed[i] = false := by simpa [hlt] using hl
        rw [← this]
        exact Array.getElem_mem_toList hlt
    refine ⟨?_, hend _ _ _ hs hall hI⟩
    unfold Region.ready
    rw [List.filter_eq_nil_iff]
    intro i hi
    rw [hall i (List.mem_range.1 hi)]
    simp
  | succ fuel ih =>
    intro listed a w hs ⟨n, hn, hc⟩ hI
    refine ⟨fun h => hend _ _ _ hs (all_done hup hs h) hI, fun i hi => ?_⟩
    obtain ⟨h1, o, ho, h2⟩ := mem_ready.1 hi
    refine wpOp_mono (fun a' w' h => ?_) (hstep listed a w i o hs hI ho h1 h2)
    have hlt : i < listed.size := by rw [hs]; exact (Array.getElem?_eq_some_iff.1 ho).1
    refine ih _ a' w' (by simpa using hs) ⟨_, ?_, rfl⟩ h
    have hli : listed[i] = false := by simpa [hlt] using h1
    have hset : (listed.setIfInBounds i true).toList = listed.toList.set i true := by simp
    rw [hset]
    have := List.count_set (a := true) (b := false) (l := listed.toList) (i := i) (by simpa using hlt)
    rw [this]
    simp [hli, hc]
    omega

theorem wp_region_inv {id : Nat} {a : Act} {w : World} (hm : P.follows .mixedOrders = true) (hup : upward ops = true) (I : Array Bool → Act → World → Prop)
    (h0 : I (Array.replicate ops.size false) a w.drew)
    (hstep : ∀ listed a w i o, listed.size = ops.size → I listed a w → ops[i]? = some o → listed.getD i true = false → (∀ e ∈ o.after, Region.binds .any e = true → listed.getD e.on false = true) →
      wpOp P ops Q i (I (listed.setIfInBounds i true)) a w)
    (hend : ∀ listed a w, listed.size = ops.size → (∀ i, i < ops.size → listed.getD i true = true) → I listed a w → Q .normal a w) : (Code.region id ops true).wp P Q a w :=
  wp_region_any hm (wpAny_inv hup I hstep hend _ _ _ _ (by simp) ⟨_, by simp, rfl⟩ h0)
end
end Go.Proofs.YthbaoocnnfnhnaaDoor
