/- The call's own copy of bytes: its making by append, its swaps. -/
import Derived.Test.YtffcklhoeejlfaaDoorCoI
import Derived.Test.YtffcklhoeejlfaaDoorKitApp
import Derived.Test.YtffcklhoeejlfaaDoorKitSl
namespace Go.Proofs.YtffcklhoeejlfaaDoor
open Go.RowKit
theorem run_append_zero {P : Program} (w : World) (t ty e : TypeId) (i : TypeInfo) (ht : P.underlying t = some (.slice e)) (hi : P.info? e = some i) (g : Addr) (x : Option Addr) (c : Nat) :
    (Builtin.append_ #[t, t] ty #[.slice (some g) 0 0, .slice x 0 c]).run P w = .ok (.slice (some g) 0 0) w := by
  cases x <;> simp [Builtin.append_, run_underlying ht, sizeOf, typeInfo, hi, Builtin.lenOf, Builtin.firstCells, loadCells, loadCellsFrom, storeCells, Sem.run_pure, Result.andThen]

theorem IntsAt.mod {k : IntKind} {w w' : World} {x : Option Addr} {n : Nat} {Z : Nat → Int} (h : IntsAt k w x n Z) (hm : Mod NoB w w') : IntsAt k w' x n Z := by
  intro i hi
  obtain ⟨b, off, hx, hb, hc⟩ := h i hi
  exact ⟨b, off, hx, Nat.lt_of_lt_of_le hb hm.size, fun j hj => (hm.below.cell (p := ⟨b, off + j, none⟩) hb).trans (hc j hj)⟩

/-- Block g holds bytes M at its head. -/
def MO (w : World) (g : Nat) (M : Array Int) : Prop :=
  ∃ cur, w.heap[g]? = some (.cells cur 5 (0, 0)) ∧ ∀ j (h : j < M.size), cur[j]? = some (.int .u8 M[j])

theorem MO.heap {S : Nat → Prop} {w w' : World} {g : Nat} {M : Array Int} (h : MO w g M) (hm : Mod S w w') (hg : ¬ S g) : MO w' g M :=
  let ⟨cur, h1, h2⟩ := h
  ⟨cur, hm.heap h1 hg, h2⟩
theorem MO.cell {w : World} {g : Nat} {M : Array Int} (h : MO w g M) (j : Nat) (hj : j < M.size) : w.cell? ⟨g, j, none⟩ = some (.int .u8 M[j]) := by
  obtain ⟨cur, h1, h2⟩ := h
  exact cell_of_block h1 j (h2 j hj)
theorem MO.frozen {w : World} {g : Nat} {M : Array Int} (h : MO w g M) (j : Nat) : w.frozen? ⟨g, j, none⟩ = false := by
  obtain ⟨cur, h1, h2⟩ := h
  exact frozen_of_block h1 j
theorem MO.swap {w : World} {g : Nat} {M : Array Int} (h : MO w g M) (x y : Nat) (hx : x < M.size) (hy : y < M.size) :
    MO ((w.setCell ⟨g, x, none⟩ (.int .u8 M[y])).setCell ⟨g, y, none⟩ (.int .u8 M[x])) g (M.swap x y hx hy) := by
  obtain ⟨cur, h1, h2⟩ := h
  have h3 := heap_setCell_eq (o := x) h1 (.int .u8 M[y])
  refine ⟨_, heap_setCell_eq (o := y) h3 (.int .u8 M[x]), fun j hj => ?_⟩
  rw [Array.size_swap] at hj
  have hsx := h2 x hx
  have hsy := h2 y hy
  have hsj := h2 j hj
  rw [Array.getElem_swap]
  have hcx : x < cur.size := (Array.getElem?_eq_some_iff.mp hsx).1
  have hcy : y < cur.size := (Array.getElem?_eq_some_iff.mp hsy).1
  have hcj : j < cur.size := (Array.getElem?_eq_some_iff.mp hsj).1
  simp only [Array.getElem?_setIfInBounds]
  by_cases hyj : y = j
  · subst hyj
    by_cases hxy : y = x
    · subst hxy; simp [hcy]
    · simp [hcy, hxy]
  · by_cases hxj : x = j
    · subst hxj; simp [hyj, hcx]
    · simp [hyj, hxj, Ne.symm hyj, Ne.symm hxj, hcj]
      exact (Array.getElem?_eq_some_iff.mp hsj).2

theorem infoByte : (Tryd.prog.info? 5).map (fun i => (i.zero, i.size, i.bytes)) = some (some (.int .u8 0), 1, 1) := by kernel_rfl

theorem Mod.grownIn {S : Nat → Prop} {a w w' : World} {row : Option Nat} (h : Mod S a w) (hg : w.grownBy w' row) (hr : ∀ k, row = some k → S k) : Mod S a w' :=
  ⟨hg.os.trans h.os, hg.tape.trans h.tape, hg.output.trans h.output, Nat.le_trans h.size hg.size, fun k hk hn =>
    (hg.block k (Nat.lt_of_lt_of_le hk h.size) (fun e => hn (hr k e.symm))).trans (h.block k hk hn)⟩

theorem wpList_append_bytes {ops : Array Oper} {rest : List Oper} {o : Oper} {a : Act} {Q : Exit → Act → World → Prop} {w : World} (hgd : o.guard = none) (s x : Operand)
    (ho : o.op = .call { callee := .builtin .append, args := #[s, x], argTypes := #[41, 41] })
    (g base : Nat) (hg : w.heap[g]? = some (.cells #[] 5 (0, 0))) (hbg : base ≤ g) (xa : Option Addr) (n cap : Nat) (Z : Nat → Int) (hs : a.eval s = .slice (some ⟨g, 0, none⟩) 0 0) (hx : a.eval x = .slice xa n cap)
    (hZ : IntsAt .u8 w xa n Z) (hn : n ≤ 300)
    (h : ∀ g' cap' w', base ≤ g' → n ≤ cap' → MO w' g' ((Array.range n).map Z) → Mod (· = g) w w' → wpList Tryd.prog ops Q rest (a.put o.dst (.slice (some ⟨g', 0, none⟩) n cap')) w') : wpList Tryd.prog ops Q (o :: rest) a w := by
  obtain ⟨i0, hi, hz0, hz1, hz2⟩ := info_parts infoByte
  by_cases hn0 : n = 0
  · subst hn0
    refine wpList_plain hgd fun K hK => ?_
    unfold Oper.wp execOp
    simp only [ho, resolve, invoke, builtin, Sem.run_bind, Sem.run_pure, Result.andThen_ok, List.map_toArray, List.map_cons, List.map_nil, hs, hx, run_append_zero w 41 o.type 5 i0 Tryd.underlying41 hi]
    exact hK _ _ (h g 0 w hbg (Nat.le_refl _) ⟨_, hg, fun j hj => absurd hj (by simp)⟩ (Mod.refl _ _))
  · obtain ⟨b, off, rfl, hb, hcell⟩ := hZ 0 (by omega)
    refine wpList_append_own w hgd s x 41 ho g 5 i0 (.int .u8 0) 1 1 Tryd.underlying41 hi hz0 hz1 hz2 rfl (by decide) _ 0 [] hs ⟨rfl, Or.inr ⟨g, 0, #[], rfl, Nat.le_refl _, hg, Nat.le_refl _, by decide, rfl, rfl⟩⟩ ⟨b, off, none⟩ n cap ((List.range n).map fun j => .int .u8 (Z j)) hx (by simp) (fun j u hu => ?_) (fun u hu => ?_) (by unfold maxLen; omega) (by omega) (Nat.le_of_lt (lt_of_block hg)) ?_
    · rw [List.getElem?_map] at hu
      rcases Nat.lt_or_ge j n with hj | hj
      · rw [List.getElem?_range hj] at hu
        simp at hu
        subst hu
        rw [Go.WideShapes.add_plain]; exact hcell j hj
      · rw [List.getElem?_eq_none (by simpa using hj)] at hu; cases hu
    · simp at hu
      obtain ⟨j, _, rfl⟩ := hu
      rfl
    · intro v' w' hown hgr hv
      rcases hown.2 with ⟨hz, h0⟩ | ⟨g', cap', cur, rfl, hb', hg', hcap, hmx, hsz, htk⟩
      · omega
      · rw [Nat.zero_add] at hcap htk ⊢
        refine h g' cap' w' (Nat.le_trans hbg hb') hcap ⟨cur, hg', fun j hj => ?_⟩ ((Mod.refl _ w).grownIn hgr ?_)
        · simp at hj
          have h1 : (cur.toList.take (n * 1))[j]? = some (.int .u8 (Z j)) := by
            rw [htk]; simp [hj]
          rw [Nat.mul_one, List.getElem?_take_of_lt hj, Array.getElem?_toList] at h1
          rw [h1]; simp
        · intro k hk
          simp [Value.ownBlock] at hk
          exact hk.symm
end Go.Proofs.YtffcklhoeejlfaaDoor
