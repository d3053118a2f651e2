/- A store's fresh samples: the iterator, a range over it; the best one (contracts). fresh.Store.Best (contract). -/
import Derived.Test.YtpjfiplejhbdfaaGreatDoorPUao
import Derived.Test.YtpjfiplejhbdfaaGreatDoorPUah
import Derived.Test.YtpjfiplejhbdfaaGreatDoorPUai
import Derived.RegionIn
namespace Go.Proofs.YtpjfiplejhbdfaaGreatDoor
set_option linter.unusedSimpArgs false
open Go.RowKit Go.Shelf
attribute [local go_sem] Oper.semAt_some

theorem smp_cells {w : World} {g : Nat} {xs : List SampleS} (hc : ∀ j u, (scells xs)[j]? = some u → w.cell? ⟨g, j, none⟩ = some u) {k : Nat} {x : SampleS} (hk : xs[k]? = some x) :
    w.cell? ⟨g, k * 4, none⟩ = some (.int .i64 x.offset) ∧ w.cell? ⟨g, k * 4 + 1, none⟩ = some (.int .i64 x.delay) ∧ w.cell? ⟨g, k * 4 + 2, none⟩ = some (.int .i64 x.at') ∧ w.cell? ⟨g, k * 4 + 3, none⟩ = some (.int .i64 x.slewed) := by
  have key : ∀ (l : List SampleS) (k : Nat), l[k]? = some x → ∀ j, j < 4 → (scells l)[k * 4 + j]? = x.cells[j]? := by
    intro l
    induction l with
    | nil => intro k h; simp at h
    | cons y l ih =>
      intro k h j hj
      cases k with
      | zero =>
        cases h
        rw [scells_cons, List.getElem?_append_left (by simp; omega)]
        simp
      | succ k =>
        rw [scells_cons, List.getElem?_append_right (by simp; omega)]
        rw [show (k + 1) * 4 + j - y.cells.length = k * 4 + j by simp; omega]
        exact ih k (by simpa using h) j hj
  exact ⟨hc _ _ (by simpa using key xs k hk 0 (by decide)), hc _ _ (by simpa using key xs k hk 1 (by decide)), hc _ _ (by simpa using key xs k hk 2 (by decide)), hc _ _ (by simpa using key xs k hk 3 (by decide))⟩
/-- The best of the first k. -/
def bestTo (xs : List SampleS) (h life : Int) (k : Nat) : Option SampleS := bestS (xs.take k) h life
theorem bestTo_succ {xs : List SampleS} {h life : Int} {k : Nat} {x : SampleS} (hk : xs[k]? = some x) :
    bestTo xs h life (k + 1) = if freshS x h life then pickS (bestTo xs h life k) x else bestTo xs h life k := by
  unfold bestTo bestS
  rw [List.take_add_one, hk]
  simp only [Option.toList_some, List.filter_append, List.foldl_append]
  cases hf : freshS x h life <;> simp [hf]
set_option maxHeartbeats 4000000 in
theorem freshIter (n : Nat) (b rb : Nat) (sl : Value) (xs : List SampleS) (h life : Int) (Bt Bh Bl l : Nat) (Own : Nat → Prop) (P : Option SampleS → World → Prop) (W : World)
    (hst : StoreO W b rb sl xs) (hl : xs.length ≤ 8) (hok : ∀ x ∈ xs, x.Ok) (hh : I64 h)
    (ct : W.cell? ⟨Bt, 0, none⟩ = some (at0 b)) (ch : W.cell? ⟨Bh, 0, none⟩ = some (.int .i64 h)) (cl : W.cell? ⟨Bl, 0, none⟩ = some (.int .i64 life))
    (nh : ¬ Own Bh) (nl : ¬ Own Bl) (hown : ∀ k, Own k → k < W.heap.size)
    (hP : ∀ o W W', P o W → Mod NoB W W' → P o W')
    (hY : ∀ o x W1, P o W1 → YieldAt Fence.wide (n - 1) Tryz.prog l #[x.val] W1 fun e W2 => e = .returned (.bool true) ∧ P (pickS o x) W2 ∧ Mod Own W1 W2)
    (h0 : P none W) :
    CallsIn Fence.wide n Tryz.prog 227 #[.func (.yield l) #[] #[], at0 Bt, at0 Bh, at0 Bl] W
      fun e W' => (∃ v, e = .returned v) ∧ P (bestS xs h life) W' ∧ Mod Own W W' := by
  have hall := fall_any b rb sl xs W hst hl
  replace hall := hide hall
  clear hst
  replace hP := hide hP
  replace hY := hide hY
  replace h0 := hide h0
  replace hown := hide hown
  refine callsIn_of_wp Tryz.func227 rfl trivial ?_ rfl
  simp only [Tryz.ntmps227, List.size_toArray, List.length_cons, List.length_nil, Nat.reduceAdd, Nat.reduceSub, Array.replicate_succ, Array.replicate_zero, List.push_toArray, List.append_toArray, List.nil_append, List.cons_append]
  gi_wp2_with fail
  refine ⟨trivial, fun h => (by cases h), (callsIn_wide.2 hall.out).mono ?_⟩
  rintro e W0 ⟨v, rfl, hs, hnew, hm⟩
  have dh := hm.cellAt id ch
  have dl := hm.cellAt id cl
  clear ch cl ct
  rcases hs with ⟨rfl, rfl⟩ | ⟨g, c, rfl, hc⟩
  · replace hm := hide hm
    replace hnew := hide hnew
    gi_wp2_with fail
    gi_loopw [10] (fun s10 wr => s10 = .int .i64 0 ∧ wr = W0) (fun _ _ => (0 : Nat))
    case atStart => exact ⟨rfl, rfl⟩
    case round =>
      obtain ⟨rfl, rfl⟩ := hrel
      gi_wp2
      go_end0
      have hm := hm.out
      exact ⟨⟨_, rfl⟩, hP.out _ _ _ h0.out hm, hm.mono (fun _ _ f => f.elim)⟩
  · have hg : ¬ Own g := fun ho => by have := hown.out g ho; have := hnew g rfl; omega
    have h00 : P (bestTo xs h life 0) W0 := hP.out _ _ _ h0.out hm
    replace hm := hide hm
    replace hnew := hide hnew
    replace hc := hide hc
    replace h00 := hide h00
    have hlen : (xs.length : Int) ≤ 8 := by omega
    gi_wp2_with fail
    gi_loopw [10] (fun s10 wr => ∃ k : Nat, s10 = .int .i64 k ∧ k ≤ xs.length ∧ P (bestTo xs h life k) wr ∧ Mod Own W0 wr) (fun s10 wr => xs.length - (match s10 with | .int _ i => i.toNat | _ => 0))
    case atStart => exact ⟨0, rfl, Nat.zero_le _, h00.out, Mod.refl _ _⟩
    case round =>
      obtain ⟨k, rfl, hk, hPk, hmk⟩ := hrel
      by_cases hkl : k < xs.length
      · obtain ⟨x, hx⟩ : ∃ x, xs[k]? = some x := ⟨xs[k], by simp [hkl]⟩
        have hxo := hok x (List.mem_of_getElem? hx)
        obtain ⟨e0, e1, e2, e3⟩ := smp_cells hc.out hx
        have e0 := hmk.cellAt hg e0
        have e1 := hmk.cellAt hg e1
        have e2 := hmk.cellAt hg e2
        have e3 := hmk.cellAt hg e3
        have e4 := hmk.cellAt nh dh
        have e5 := hmk.cellAt nl dl
        have l4 := lt_of_cell e4
        have l5 := lt_of_cell e5
        have hs : Hid (bestTo xs h life (k + 1) = _) := hide (bestTo_succ hx)
        have hfr : ∀ w', Calls Tryz.prog 229 #[x.val, .int .i64 h, .int .i64 life] w' fun e w'' => e = .returned (.bool (freshS x h life)) ∧ Mod NoB w' w'' := fun w' => fresh_any x.offset x.delay x.at' x.slewed h life hxo.a hh w'
        replace hfr := hide hfr
        replace hx := hide hx
        replace hPk := hide hPk
        replace hmk := hide hmk
        have hki : (k : Int) < xs.length := by omega
        clear hkl hk
        gi_wp2_with fail
        refine ⟨trivial, fun h => (by cases h), (callsIn_wide.2 (hfr.out _)).mono ?_⟩
        rintro e w5 ⟨rfl, hm5⟩
        have hb5 := hm5.heap (heap_alloc_new wr (.cells #[.int .i64 x.offset, .int .i64 x.delay, .int .i64 x.at', .int .i64 x.slewed] 185)) id
        have b0 := cell_of_block hb5 0 rfl
        have b1 := cell_of_block hb5 1 rfl
        have b2 := cell_of_block hb5 2 rfl
        have b3 := cell_of_block hb5 3 rfl
        have hm5' : Mod NoB wr w5 := ((Mod.refl NoB wr).alloc _).trans hm5
        clear hb5 hm5
        have hP5 := hide (hP.out _ _ _ hPk.out hm5')
        have hm6 : Hid (Mod Own W0 w5) := hide (hmk.out.trans (hm5'.mono (fun _ _ f => f.elim)))
        have hwk : wrap64 ((k : Int) + 1) = ((k + 1 : Nat) : Int) := by rw [wrap64_eq, wrap_in ⟨by omega, by omega⟩]; omega
        cases hf : freshS x h life with
        | false =>
          have hs2 : Hid (bestTo xs h life (k + 1) = bestTo xs h life k) := hide (by rw [hs.out, hf]; rfl)
          replace hf := hide hf
          gi_wp2_with fail
          refine ⟨fun f hf => (by cases hf), ?_⟩
          gi_wp2_with fail
          go_roundw
          case rel => exact ⟨k + 1, rfl, by omega, by rw [hs2.out]; exact hP5.out, hm6.out⟩
          case measure => simp; omega
        | true =>
          have hs2 : Hid (bestTo xs h life (k + 1) = pickS (bestTo xs h life k) x) := hide (by rw [hs.out, hf]; rfl)
          replace hf := hide hf
          obtain ⟨fn, tmps, assign, body, hy, hR⟩ := hY.out _ x w5 hP5.out
          gi_wp2_with fail
          refine ⟨fun h => (by cases h), hR.mono ?_⟩
          rintro e W2 ⟨rfl, hP2, hm2⟩
          have hm7 : Hid (Mod Own W0 W2) := hide (hm6.out.trans hm2)
          replace hP2 := hide hP2
          clear hm2
          gi_wp2_with fail
          go_roundw
          case rel => exact ⟨k + 1, rfl, by omega, by rw [hs2.out]; exact hP2.out, hm7.out⟩
          case measure => simp; omega
      · have hkl2 : k = xs.length := by omega
        have hki : ¬ ((k : Int) < xs.length) := by omega
        have hs : bestTo xs h life k = bestS xs h life := by unfold bestTo; rw [hkl2, List.take_length]
        rw [hs] at hPk
        replace hPk := hide hPk
        replace hmk := hide hmk
        gi_wp2
        go_end0
        refine ⟨⟨_, rfl⟩, hPk.out, ?_⟩
        have hm := hm.out
        exact (hm.mono (fun _ _ f => f.elim)).trans hmk.out
/-- A set of blocks, and the loop's own two. -/
def ownD (Own : Nat → Prop) (D : Nat) : Nat → Prop := fun k => Own k ∨ k = D ∨ k = D + 1
set_option maxHeartbeats 4000000 in
/-- 'for x := range s.fresh(h, life)', outermost; no round leaves it. -/
theorem rangeFresh (n : Nat) (b rb : Nat) (sl : Value) (xs : List SampleS) (h life : Int) (Bt Bh Bl : Nat) {g : Operand} {ps : Array Tmp} {assign body : Code} {Q : Exit → Act → World → Prop} {a : Act} {w : World}
    (hg : a.eval g = .func (.func 227) #[] #[at0 Bt, at0 Bh, at0 Bl])
    (hps : ps.size = 1) (Own : Nat → Prop) (J : Option SampleS → World → Prop) (hJm : ∀ o W W', J o W → Mod NoB W W' → J o W') (hJa : ∀ o, Apart w.heap.size (J o))
    (hst : StoreO w b rb sl xs) (hl : xs.length ≤ 8) (hok : ∀ x ∈ xs, x.Ok) (hh : I64 h)
    (ct : w.cell? ⟨Bt, 0, none⟩ = some (at0 b)) (ch : w.cell? ⟨Bh, 0, none⟩ = some (.int .i64 h)) (cl : w.cell? ⟨Bl, 0, none⟩ = some (.int .i64 life))
    (nh : ¬ Own Bh) (nl : ¬ Own Bl) (hown : ∀ k, Own k → k < w.heap.size) (h0 : J none w) (a₁ : SampleS → Nat → Act)
    (hassign : ∀ (l : Nat) (x : SampleS) (W : World) (K : Act → World → Prop), K (a₁ x W.heap.size) (W.alloc (.cells x.cells.toArray 185)) →
      assign.wpIn (Fence.wide.inRound l) (n - 1 - 1) Tryz.prog (Exit.then K (fun _ _ _ => False)) { tmps := (ps.zip #[x.val]).foldl (fun t (p, v) => t.setIfInBounds p v) a.tmps, defers := [] } W)
    (hbody : ∀ (l : Nat) (o : Option SampleS) (x : SampleS) (W : World) (g : Nat), w.heap.size + 1 < g → W.heap[g]? = some (.cells x.cells.toArray 185 (0, 0)) → J o W → body.wpIn (Fence.wide.inRound l) (n - 1 - 1) Tryz.prog (fun e _ W' => e = .normal ∧ J (pickS o x) W' ∧ Mod Own W W') (a₁ x g) W)
    (hdone : ∀ W, J (bestS xs h life) W → Mod Own w W → W.heap[w.heap.size]? = some (.deferred (some [])) → Q .normal { a with defers := { target := .collected w.heap.size, args := #[] } :: a.defers } W) :
    (Code.rangeFunc g ps assign body).wpIn Fence.wide n Tryz.prog Q a w := by
  have hlh := lt_of_cell ch
  have hll := lt_of_cell cl
  refine wpIn_rangeFunc ?_
  intro fn hfn
  obtain ⟨rec, hrec⟩ : ∃ rec : LoopState → Option Code → Loop, rec = fun st pe => { state := st, pending := pe, fn, tmps := a.tmps, params := ps, assign, body, defers := w.heap.size } := ⟨_, rfl⟩
  obtain ⟨W1, hW1⟩ : ∃ W1, (w.alloc (.deferred (some []))).alloc (.loop (rec .ready none)) = W1 := ⟨_, rfl⟩
  have hL1 : W1.heap[w.heap.size + 1]? = some (.loop (rec .ready none)) := by
    rw [← hW1]
    have := heap_alloc_new (w.alloc (.deferred (some []))) (.loop (rec .ready none))
    rwa [World.size_alloc] at this
  have hD1 : W1.heap[w.heap.size]? = some (.deferred (some [])) := by
    rw [← hW1, heap_alloc_old (by simp)]
    exact heap_alloc_new w _
  have hm1 : Mod NoB w W1 := by rw [← hW1]; exact ((Mod.refl _ _).alloc _).alloc _
  have hs1 : W1.heap.size = w.heap.size + 1 + 1 := by rw [← hW1]; simp
  refine ⟨w.heap.size + 1, [{ target := .collected w.heap.size, args := #[] }], W1, { target := .fn (.func 227) #[at0 Bt, at0 Bh, at0 Bl], args := #[.func (.yield (w.heap.size + 1)) #[] #[]] }, W1, 227,
    #[.func (.yield (w.heap.size + 1)) #[] #[]] ++ #[at0 Bt, at0 Bh, at0 Bl], W1, ?_, ?_, ?_, ?_, fun h => (by cases h), ?_⟩
  · rw [← hW1, hrec]
    exact run_enterLoop_outer _ _ _ _ _
  · simp only [resolve, hg]
    simp [go_sem]
  · intro f' hf'
    exact trivial
  · simp [invoke, go_sem]
  · refine (freshIter (n - 1) b rb sl xs h life Bt Bh Bl (w.heap.size + 1) (ownD Own w.heap.size)
      (fun o W => J o W ∧ W.heap[w.heap.size + 1]? = some (.loop (rec .ready none)) ∧ W.heap[w.heap.size]? = some (.deferred (some [])))
      W1 (hst.mod hm1 id id (fun _ _ => id)) hl hok hh (hm1.cellAt id ct) (hm1.cellAt id ch) (hm1.cellAt id cl) ?_ ?_ ?_ ?_ ?_ ⟨hJm _ _ _ h0 hm1, hL1, hD1⟩).mono ?_
    · rintro (h | h | h)
      · exact nh h
      · omega
      · omega
    · rintro (h | h | h)
      · exact nl h
      · omega
      · omega
    · rintro k (h | h | h)
      · have := hown k h; omega
      · omega
      · omega
    · rintro o W W' ⟨h1, h2, h3⟩ hm
      exact ⟨hJm _ _ _ h1 hm, hm.heap h2 id, hm.heap h3 id⟩
    · rintro o x W ⟨h1, h2, h3⟩
      have hlt : w.heap.size + 1 < W.heap.size := lt_of_block h2
      have hy := run_yield (P := Tryz.prog) (args := #[x.val]) h2 (by rw [hrec]; exact hps.symm)
      rw [hrec] at hy
      obtain ⟨Wb, hWb⟩ : ∃ Wb, W.alloc (.cells x.cells.toArray 185) = Wb := ⟨_, rfl⟩
      have hma : Mod NoB W Wb := hWb ▸ (Mod.refl _ _).alloc _
      have hx : Wb.heap[W.heap.size]? = _ := hWb ▸ heap_alloc_new W (.cells x.cells.toArray 185)
      have h1 := hJm _ _ _ h1 hma
      have h2 := hma.heap h2 id
      have h3 := hma.heap h3 id
      have hltb : w.heap.size + 1 < Wb.heap.size := lt_of_block h2
      have hb2 : (Wb.putObj (w.heap.size + 1) (.loop { rec .ready none with state := .busy })).heap[w.heap.size + 1]? = some (.loop { rec .ready none with state := .busy }) := World.putObj_heap_same hltb
      have hb3 : (Wb.putObj (w.heap.size + 1) (.loop { rec .ready none with state := .busy })).heap[w.heap.size]? = some (.deferred (some [])) := (World.putObj_heap_other (by omega)).trans h3
      have hbx : (Wb.putObj (w.heap.size + 1) (.loop { rec .ready none with state := .busy })).heap[W.heap.size]? = _ := (World.putObj_heap_other (by omega)).trans hx
      have hmb : Mod (ownD Own w.heap.size) W (Wb.putObj (w.heap.size + 1) (.loop { rec .ready none with state := .busy })) := (hma.mono (fun _ _ f => f.elim)).putObj (Or.inl (Or.inr (Or.inr rfl))) _
      refine ⟨fn, _, assign, body, hy, roundIn_of_wpIn hfn (hassign _ x W _ ?_)⟩
      rw [hWb]
      refine ⟨_, run_beginRound h2 (by rw [hrec]), ?_⟩
      refine wpIn_mono (hbody _ o x _ W.heap.size hlt hbx (hJa o _ _ _ (by omega) (by omega) h1)) ?_
      rintro e a3 W3 ⟨rfl, hj3, hm3⟩
      have hl3 := hm3.heap hb2 (fun ho => by have := hown _ ho; omega)
      have hd3 := hm3.heap hb3 (fun ho => by have := hown _ ho; omega)
      have he := run_endRound (P := Tryz.prog) none hl3
      refine ⟨_, _, he, rfl, ⟨hJa _ _ _ _ (by omega) (by omega) hj3, ?_, (World.putObj_heap_other (by omega)).trans hd3⟩, ?_⟩
      · rw [hrec]
        exact World.putObj_heap_same (lt_of_block hl3)
      · exact (hmb.trans (hm3.mono (fun _ _ h => Or.inl h))).putObj (Or.inl (Or.inr (Or.inr rfl))) _
    · rintro e W2 ⟨⟨v, rfl⟩, ⟨h1, h2, h3⟩, hm2⟩
      have he := run_endLoop (P := Tryz.prog) h2 (by rw [hrec]; simp)
      have hmf : Mod Own w W2 := (hm1.mono (fun _ _ f => f.elim)).into hm2 (by
        rintro k (h | h | h)
        · exact Or.inl h
        · exact Or.inr (by omega)
        · exact Or.inr (by omega))
      exact ⟨_, _, he, by rw [hrec]; exact hdone _ (hJa _ _ _ _ (by omega) (by omega) h1) (hmf.putObj (Or.inr (by omega)) _) ((World.putObj_heap_other (by omega)).trans h3)⟩
end Go.Proofs.YtpjfiplejhbdfaaGreatDoor

namespace Go.Proofs.YtpjfiplejhbdfaaGreatDoor
set_option linter.unusedSimpArgs false
open Go.RowKit Go.Shelf
attribute [local go_sem] Oper.semAt_some

theorem ffresh_any (b : Nat) (h life : Int) (w : World) :
    Calls Tryz.prog 210 #[at0 b, .int .i64 h, .int .i64 life] w fun e w' =>
      e = .returned (.func (.func 227) #[] #[at0 w.heap.size, at0 (w.heap.size + 1), at0 (w.heap.size + 1 + 1)]) ∧
      w' = ((w.alloc (.cells #[at0 b] 104)).alloc (.cells #[.int .i64 h] 2)).alloc (.cells #[.int .i64 life] 2) := by
  go_enter Tryz.func210, Tryz.ntmps210
  go_wp2
  go_ret
  exact ⟨rfl, rfl⟩
/-- What Best answers. -/
def BestE (o : Option SampleS) (slewed : Int) (e : Ending) : Prop := match o with
  | none => e = .returned (.tuple #[.agg #[.int .i64 0, .int .i64 0, .int .i64 0, .int .i64 0], .int .i64 0, .bool false])
  | some x => e = .returned (.tuple #[x.val, .int .i64 (nowS x slewed), .bool true])
def zeroS : SampleS := ⟨0, 0, 0, 0⟩
/-- The best one's cells, and whether there is one. -/
structure BestJ (D : Nat) (o : Option SampleS) (W : World) : Prop where
  c : W.heap[D]? = some (.cells (o.getD zeroS).cells.toArray 185 (0, 0))
  k : W.heap[D + 1]? = some (.cells #[.bool o.isSome] 4 (0, 0))
theorem best_mem {xs : List SampleS} {h life : Int} : ∀ x, bestS xs h life = some x → x ∈ xs := by
  have key : ∀ (l : List SampleS) (o : Option SampleS) x, l.foldl pickS o = some x → x ∈ l ∨ o = some x := by
    intro l
    induction l with
    | nil => intro o x h; exact Or.inr h
    | cons y l ih =>
      intro o x h
      rcases ih _ _ h with h | h
      · exact Or.inl (by simp [h])
      · cases o with
        | none => cases h; exact Or.inl (by simp)
        | some b =>
          simp only [pickS] at h
          split at h
          · exact Or.inr h
          · cases h; exact Or.inl (by simp)
  intro x hx
  rcases key _ _ _ hx with h | h
  · exact (List.mem_filter.1 h).1
  · cases h
theorem BestJ.take {D : Nat} {o : Option SampleS} {W : World} (hj : BestJ D o W) (x : SampleS) :
    BestJ D (some x) (((((W.setCell ⟨D, 0, none⟩ (.int .i64 x.offset)).setCell ⟨D, 1, none⟩ (.int .i64 x.delay)).setCell ⟨D, 2, none⟩ (.int .i64 x.at')).setCell ⟨D, 3, none⟩ (.int .i64 x.slewed)).setCell ⟨D + 1, 0, none⟩ (.bool true)) ∧
    Mod (fun k => k = D ∨ k = D + 1) W (((((W.setCell ⟨D, 0, none⟩ (.int .i64 x.offset)).setCell ⟨D, 1, none⟩ (.int .i64 x.delay)).setCell ⟨D, 2, none⟩ (.int .i64 x.at')).setCell ⟨D, 3, none⟩ (.int .i64 x.slewed)).setCell ⟨D + 1, 0, none⟩ (.bool true)) := by
  refine ⟨⟨?_, ?_⟩, ((((((Mod.refl _ _).setCell (Or.inl (Or.inl rfl)) _).setCell (Or.inl (Or.inl rfl)) _).setCell (Or.inl (Or.inl rfl)) _).setCell (Or.inl (Or.inl rfl)) _).setCell (Or.inl (Or.inr rfl)) _)⟩
  · rw [heap_setCell_ne (by simp), heap_setCell_eq (heap_setCell_eq (heap_setCell_eq (heap_setCell_eq hj.c _) _) _)]
    simp
  · rw [heap_setCell_eq (c := #[.bool o.isSome]) (t := 4) (fr := (0, 0))]
    · simp
    · rw [heap_setCell_ne (by simp), heap_setCell_ne (by simp), heap_setCell_ne (by simp), heap_setCell_ne (by simp)]
      exact hj.k
theorem BestJ.put {D : Nat} {o : Option SampleS} {W : World} (hj : BestJ D o W) (x y z u : Value) (k : Bool) {Wz : World}
    (hW : ((((((W.setCell ⟨D, 0, none⟩ x).setCell ⟨D, 1, none⟩ y).setCell ⟨D, 2, none⟩ z).setCell ⟨D, 3, none⟩ u).setCell ⟨D + 1, 0, none⟩ (.bool k)).drew) = Wz) :
    Wz.heap[D]? = some (.cells #[x, y, z, u] 185 (0, 0)) ∧ Wz.heap[D + 1]? = some (.cells #[.bool k] 4 (0, 0)) ∧ Mod (fun k => k = D ∨ k = D + 1) W Wz := by
  obtain ⟨Wv, hv⟩ : ∃ Wv, (((((W.setCell ⟨D, 0, none⟩ x).setCell ⟨D, 1, none⟩ y).setCell ⟨D, 2, none⟩ z).setCell ⟨D, 3, none⟩ u).setCell ⟨D + 1, 0, none⟩ (.bool k)) = Wv := ⟨_, rfl⟩
  rw [hv] at hW
  subst hW
  have g0 : Wv.heap[D]? = some (.cells #[x, y, z, u] 185 (0, 0)) := by
    rw [← hv, heap_setCell_ne (by simp), heap_setCell_eq (heap_setCell_eq (heap_setCell_eq (heap_setCell_eq hj.c _) _) _)]
    simp
  have g1 : Wv.heap[D + 1]? = some (.cells #[.bool k] 4 (0, 0)) := by
    rw [← hv, heap_setCell_eq (c := #[.bool o.isSome]) (t := 4) (fr := (0, 0))]
    · simp
    · rw [heap_setCell_ne (by simp), heap_setCell_ne (by simp), heap_setCell_ne (by simp), heap_setCell_ne (by simp)]
      exact hj.k
  have hm : Mod (fun k => k = D ∨ k = D + 1) W Wv := by
    rw [← hv]
    exact (((((Mod.refl _ _).setCell (Or.inl (Or.inl rfl)) _).setCell (Or.inl (Or.inl rfl)) _).setCell (Or.inl (Or.inl rfl)) _).setCell (Or.inl (Or.inl rfl)) _).setCell (Or.inl (Or.inr rfl)) _
  exact ⟨g0, g1, hm.drew⟩
theorem resBest (tmps : Array Value) (W : World) (D : Nat) (x y z u v : Value) (k : Bool) (ha : tmps[8]?.getD undef = .pointer (some ⟨D, 0, none⟩)) (hb : tmps[10]?.getD undef = .pointer (some ⟨D + 1, 0, none⟩)) (hc : tmps[9]?.getD undef = v)
    (h0 : W.heap[D]? = some (.cells #[x, y, z, u] 185 (0, 0))) (h1 : W.heap[D + 1]? = some (.cells #[.bool k] 4 (0, 0))) :
    (results Tryz.f180 tmps).run Tryz.prog W = .ok (.tuple #[.agg #[x, y, z, u], v, .bool k]) W := by
  have k0 := cell_of_block h0 0 rfl
  have k1 := cell_of_block h0 1 rfl
  have k2 := cell_of_block h0 2 rfl
  have k3 := cell_of_block h0 3 rfl
  have k4 := cell_of_block h1 0 rfl
  simp [results, Tryz.results180, go_sem, ha, hb, hc, k0, k1, k2, k3, k4]
set_option maxHeartbeats 8000000 in
theorem best_any (b rb : Nat) (sl : Value) (xs : List SampleS) (h life slewed : Int) (w : World) (hst : StoreO w b rb sl xs) (hl : xs.length ≤ 8) (hok : ∀ x ∈ xs, x.Ok) (hh : I64 h) (hz : I64 slewed) :
    Calls Tryz.prog 180 #[at0 b, .int .i64 h, .int .i64 life, .int .i64 slewed] w fun e w' =>
      BestE (bestS xs h life) slewed e ∧ Mod NoB w w' := by
  have hlb := lt_of_block hst.blk
  replace hst := hide hst
  refine (callsIn_wide (n := 9)).1 ?_
  refine callsIn_of_wp_marks Tryz.func180 rfl trivial ?_ rfl
  simp only [Tryz.ntmps180, List.size_toArray, List.length_cons, List.length_nil, Nat.reduceAdd, Nat.reduceSub, Array.replicate_succ, Array.replicate_zero, List.push_toArray, List.append_toArray, List.nil_append, List.cons_append]
  gi_wp2_with fail
  refine ⟨trivial, (callsIn_wide.2 (ffresh_any b h life _)).mono ?_⟩
  rintro e w' ⟨rfl, rfl⟩
  gi_wp2_with fail
  have hm5 : Mod NoB w (((((w.alloc (.cells #[.int .i64 0, .int .i64 0, .int .i64 0, .int .i64 0] 185)).alloc (.cells #[.bool false] 4)).alloc (.cells #[at0 b] 104)).alloc (.cells #[.int .i64 h] 2)).alloc (.cells #[.int .i64 life] 2)) :=
    (((((Mod.refl _ _).alloc _).alloc _).alloc _).alloc _).alloc _
  have g0 : (((((w.alloc (.cells #[.int .i64 0, .int .i64 0, .int .i64 0, .int .i64 0] 185)).alloc (.cells #[.bool false] 4)).alloc (.cells #[at0 b] 104)).alloc (.cells #[.int .i64 h] 2)).alloc (.cells #[.int .i64 life] 2)).heap[w.heap.size]? = some (.cells #[.int .i64 0, .int .i64 0, .int .i64 0, .int .i64 0] 185 (0, 0)) := by
    simp only [alloc_get, World.size_alloc]
    repeat (first | rw [if_pos (by omega)] | rw [if_neg (by omega)])
    try exact if_pos trivial
  have g1 : (((((w.alloc (.cells #[.int .i64 0, .int .i64 0, .int .i64 0, .int .i64 0] 185)).alloc (.cells #[.bool false] 4)).alloc (.cells #[at0 b] 104)).alloc (.cells #[.int .i64 h] 2)).alloc (.cells #[.int .i64 life] 2)).heap[w.heap.size + 1]? = some (.cells #[.bool false] 4 (0, 0)) := by
    simp only [alloc_get, World.size_alloc]
    repeat (first | rw [if_pos (by omega)] | rw [if_neg (by omega)])
    try exact if_pos trivial
  have g2 : (((((w.alloc (.cells #[.int .i64 0, .int .i64 0, .int .i64 0, .int .i64 0] 185)).alloc (.cells #[.bool false] 4)).alloc (.cells #[at0 b] 104)).alloc (.cells #[.int .i64 h] 2)).alloc (.cells #[.int .i64 life] 2)).heap[w.heap.size + 1 + 1]? = some (.cells #[at0 b] 104 (0, 0)) := by
    simp only [alloc_get, World.size_alloc]
    repeat (first | rw [if_pos (by omega)] | rw [if_neg (by omega)])
    try exact if_pos trivial
  have g3 : (((((w.alloc (.cells #[.int .i64 0, .int .i64 0, .int .i64 0, .int .i64 0] 185)).alloc (.cells #[.bool false] 4)).alloc (.cells #[at0 b] 104)).alloc (.cells #[.int .i64 h] 2)).alloc (.cells #[.int .i64 life] 2)).heap[w.heap.size + 1 + 1 + 1]? = some (.cells #[.int .i64 h] 2 (0, 0)) := by
    simp only [alloc_get, World.size_alloc]
    repeat (first | rw [if_pos (by omega)] | rw [if_neg (by omega)])
    try exact if_pos trivial
  have g4 : (((((w.alloc (.cells #[.int .i64 0, .int .i64 0, .int .i64 0, .int .i64 0] 185)).alloc (.cells #[.bool false] 4)).alloc (.cells #[at0 b] 104)).alloc (.cells #[.int .i64 h] 2)).alloc (.cells #[.int .i64 life] 2)).heap[w.heap.size + 1 + 1 + 1 + 1]? = some (.cells #[.int .i64 life] 2 (0, 0)) := by
    simp only [alloc_get, World.size_alloc]
    repeat (first | rw [if_pos (by omega)] | rw [if_neg (by omega)])
    try exact if_pos trivial
  have hsz : (((((w.alloc (.cells #[.int .i64 0, .int .i64 0, .int .i64 0, .int .i64 0] 185)).alloc (.cells #[.bool false] 4)).alloc (.cells #[at0 b] 104)).alloc (.cells #[.int .i64 h] 2)).alloc (.cells #[.int .i64 life] 2)).heap.size = w.heap.size + 5 := by simp
  generalize (((((w.alloc (.cells #[.int .i64 0, .int .i64 0, .int .i64 0, .int .i64 0] 185)).alloc (.cells #[.bool false] 4)).alloc (.cells #[at0 b] 104)).alloc (.cells #[.int .i64 h] 2)).alloc (.cells #[.int .i64 life] 2)) = w5 at *
  generalize hD : w.heap.size = D at *
  have hst5 := hst.out.mod hm5 id id (fun _ _ => id)
  refine rangeFresh 9 b rb sl xs h life (D + 1 + 1) (D + 1 + 1 + 1) (D + 1 + 1 + 1 + 1) rfl rfl (fun k => k = D ∨ k = D + 1) (BestJ D)
    (fun o W W' hj hm => ⟨hm.heap hj.c id, hm.heap hj.k id⟩)
    (by rw [hsz]; exact fun o W k o' a1 a2 hj => ⟨(World.putObj_heap_other (by omega)).trans hj.c, (World.putObj_heap_other (by omega)).trans hj.k⟩)
    hst5 hl hok hh (cell_of_block g2 0 rfl) (cell_of_block g3 0 rfl) (cell_of_block g4 0 rfl) (by omega) (by omega) (by rintro k (h | h) <;> omega) ⟨g0, g1⟩
    (fun x g => { tmps := #[at0 b, .int .i64 h, .int .i64 life, .int .i64 slewed, undef, undef, undef, undef, at0 D, .int .i64 0, at0 (D + 1), at0 g, at0 b, .int .i64 h, .int .i64 life,
      .func (.func 227) #[] #[at0 (D + 1 + 1), at0 (D + 1 + 1 + 1), at0 (D + 1 + 1 + 1 + 1)], x.val, undef, undef, undef, undef, undef, undef, undef, undef, undef, undef, undef, undef, undef, undef, undef, undef], defers := [] }) ?assign ?body ?done
  case assign =>
    intro l2 x W K hK
    gi_wp2
    exact hK
  case body =>
    rintro l2 o x W g hg hx hj
    rw [hsz] at hg
    have a0 := cell_of_block hx 0 rfl
    have a1 := cell_of_block hx 1 rfl
    have a2 := cell_of_block hx 2 rfl
    have a3 := cell_of_block hx 3 rfl
    have hlg := lt_of_block hx
    have hlD := lt_of_block hj.c
    have hlk := lt_of_block hj.k
    have z0 := frozen_of_block hj.c 0
    have z1 := frozen_of_block hj.c 1
    have z2 := frozen_of_block hj.c 2
    have z3 := frozen_of_block hj.c 3
    have zk := frozen_of_block hj.k 0
    have hbt : ∀ (y : SampleS) w', Calls Tryz.prog 211 #[y.val, x.val] w' fun e w'' => e = .returned (.bool (betterS y x)) ∧ Mod NoB w' w'' := fun y w' => better_any y.offset y.delay y.at' y.slewed x.offset x.delay x.at' x.slewed w'
    replace hbt := hide hbt
    cases o with
    | none =>
      have k0 := cell_of_block hj.k 0 (v := .bool false) rfl
      have b0 := cell_of_block hj.c 0 (v := .int .i64 0) rfl
      have b1 := cell_of_block hj.c 1 (v := .int .i64 0) rfl
      have b2 := cell_of_block hj.c 2 (v := .int .i64 0) rfl
      have b3 := cell_of_block hj.c 3 (v := .int .i64 0) rfl
      replace hj := hide hj
      replace hx := hide hx
      gi_wp2_with fail
      refine ⟨trivial, ?_⟩
      have ht := hide (hj.out.take x)
      gi_wp2
      exact ⟨ht.out.1, ht.out.2⟩
    | some y =>
      have k0 := cell_of_block hj.k 0 (v := .bool true) rfl
      have b0 := cell_of_block hj.c 0 (v := .int .i64 y.offset) rfl
      have b1 := cell_of_block hj.c 1 (v := .int .i64 y.delay) rfl
      have b2 := cell_of_block hj.c 2 (v := .int .i64 y.at') rfl
      have b3 := cell_of_block hj.c 3 (v := .int .i64 y.slewed) rfl
      replace hj := hide hj
      replace hx := hide hx
      gi_wp2_with fail
      refine ⟨trivial, ((callsIn_wide.2 (hbt.out y _)).inRound l2).mono ?_⟩
      rintro e W2 ⟨rfl, hm2⟩
      have hm2 : Mod NoB W W2 := hm2
      have hx2 := hm2.heap hx.out id
      have hj2 : BestJ D (some y) W2 := ⟨hm2.heap hj.out.c id, hm2.heap hj.out.k id⟩
      clear a0 a1 a2 a3 b0 b1 b2 b3 k0 z0 z1 z2 z3 zk hlg hlD hlk
      have a0 := cell_of_block hx2 0 rfl
      have a1 := cell_of_block hx2 1 rfl
      have a2 := cell_of_block hx2 2 rfl
      have a3 := cell_of_block hx2 3 rfl
      have z0 := frozen_of_block hj2.c 0
      have z1 := frozen_of_block hj2.c 1
      have z2 := frozen_of_block hj2.c 2
      have z3 := frozen_of_block hj2.c 3
      have zk := frozen_of_block hj2.k 0
      have k0 := cell_of_block hj2.k 0 (v := .bool true) rfl
      have b0 := cell_of_block hj2.c 0 (v := .int .i64 y.offset) rfl
      have b1 := cell_of_block hj2.c 1 (v := .int .i64 y.delay) rfl
      have b2 := cell_of_block hj2.c 2 (v := .int .i64 y.at') rfl
      have b3 := cell_of_block hj2.c 3 (v := .int .i64 y.slewed) rfl
      have hpk : Hid (pickS (some y) x = if betterS y x then some y else some x) := hide rfl
      have ht := hide (hj2.take x)
      replace hj2 := hide hj2
      replace hm2 := hide hm2
      clear hx2
      cases hb : betterS y x with
      | true =>
        have hpk2 : Hid (pickS (some y) x = some y) := hide (by rw [hpk.out, hb]; rfl)
        replace hb := hide hb
        gi_wp2
        rw [hpk2.out]
        have hm2 := hm2.out
        exact ⟨hj2.out, hm2.mono (fun _ _ f => f.elim)⟩
      | false =>
        have hpk2 : Hid (pickS (some y) x = some x) := hide (by rw [hpk.out, hb]; rfl)
        replace hb := hide hb
        gi_wp2
        rw [hpk2.out]
        have hm2 := hm2.out
        exact ⟨ht.out.1, (hm2.mono (fun _ _ f => f.elim)).trans ht.out.2⟩
  case done =>
    rintro W hj hm hD
    have hmx : Tryz.prog.follows .mixedOrders = true := by kernel_rfl
    rw [hsz] at hD ⊢
    cases ho : bestS xs h life with
    | none =>
      rw [ho] at hj
      have k0 := cell_of_block hj.k 0 (v := .bool false) rfl
      have zk := frozen_of_block hj.k 0
      have b0 := cell_of_block hj.c 0 (v := .int .i64 0) rfl
      have b1 := cell_of_block hj.c 1 (v := .int .i64 0) rfl
      have b2 := cell_of_block hj.c 2 (v := .int .i64 0) rfl
      have b3 := cell_of_block hj.c 3 (v := .int .i64 0) rfl
      have z0 := frozen_of_block hj.c 0
      have z1 := frozen_of_block hj.c 1
      have z2 := frozen_of_block hj.c 2
      have z3 := frozen_of_block hj.c 3
      replace hj := hide hj
      replace hm := hide hm
      gi_wp2_with fail
      gi_region
      all_goals gi_wp2
      all_goals
        obtain ⟨Wz, hWz⟩ : ∃ Wz, ((((((W.setCell ⟨D, 0, none⟩ (.int .i64 0)).setCell ⟨D, 1, none⟩ (.int .i64 0)).setCell ⟨D, 2, none⟩ (.int .i64 0)).setCell ⟨D, 3, none⟩ (.int .i64 0)).setCell ⟨D + 1, 0, none⟩ (.bool false)).drew) = Wz := ⟨_, rfl⟩
        obtain ⟨y0, y1, hmz⟩ := hj.out.put _ _ _ _ _ hWz
        rw [hWz]
        have hDz : Wz.heap[D + 5]? = some (.deferred (some [])) := hmz.heap hD (by omega)
        refine ⟨by simp, .inl ⟨_, _, rfl, run_takeDeferred hDz, ?_⟩⟩
        have hmq : Mod (· = D + 5) Wz (Wz.putObj (D + 5) (.deferred none)) := Mod.putObj (S := (· = D + 5)) (Mod.refl _ _) (Or.inl rfl) _
        refine ⟨_, resBest _ _ D _ _ _ _ _ _ rfl rfl rfl (hmq.heap y0 (by omega)) (hmq.heap y1 (by omega)), ?_⟩
        have hm1 := hm.out
        refine ⟨by rw [ho]; rfl, ?_⟩
        exact ((hm5.into hm1 (fun k hk => Or.inr (by omega))).into hmz (fun k hk => Or.inr (by omega))).into hmq (fun k hk => Or.inr (by omega))
    | some y =>
      rw [ho] at hj
      have hyo := hok _ (best_mem y ho)
      have hnw : ∀ w', Calls Tryz.prog 212 #[y.val, .int .i64 slewed] w' fun e w'' => e = .returned (.int .i64 (nowS y slewed)) ∧ Mod NoB w' w'' := fun w' => snow_any y.offset y.delay y.at' y.slewed slewed hyo.o hyo.s hz w'
      replace hnw := hide hnw
      have k0 := cell_of_block hj.k 0 (v := .bool true) rfl
      have b0 := cell_of_block hj.c 0 (v := .int .i64 y.offset) rfl
      have b1 := cell_of_block hj.c 1 (v := .int .i64 y.delay) rfl
      have b2 := cell_of_block hj.c 2 (v := .int .i64 y.at') rfl
      have b3 := cell_of_block hj.c 3 (v := .int .i64 y.slewed) rfl
      replace hj := hide hj
      replace hm := hide hm
      gi_wp2_with fail
      refine ⟨trivial, (callsIn_wide.2 (hnw.out _)).mono ?_⟩
      rintro e W2 ⟨rfl, hm2⟩
      have hm2 : Mod NoB W W2 := hm2
      have hj2 : BestJ D (some y) W2 := ⟨hm2.heap hj.out.c id, hm2.heap hj.out.k id⟩
      have hD2 := hm2.heap hD id
      clear k0 b0 b1 b2 b3
      have k0 := cell_of_block hj2.k 0 (v := .bool true) rfl
      have zk := frozen_of_block hj2.k 0
      have b0 := cell_of_block hj2.c 0 (v := .int .i64 y.offset) rfl
      have b1 := cell_of_block hj2.c 1 (v := .int .i64 y.delay) rfl
      have b2 := cell_of_block hj2.c 2 (v := .int .i64 y.at') rfl
      have b3 := cell_of_block hj2.c 3 (v := .int .i64 y.slewed) rfl
      have z0 := frozen_of_block hj2.c 0
      have z1 := frozen_of_block hj2.c 1
      have z2 := frozen_of_block hj2.c 2
      have z3 := frozen_of_block hj2.c 3
      replace hj2 := hide hj2
      replace hm2 := hide hm2
      gi_wp2_with fail
      gi_region
      all_goals gi_wp2
      all_goals
        obtain ⟨Wz, hWz⟩ : ∃ Wz, ((((((W2.setCell ⟨D, 0, none⟩ (.int .i64 y.offset)).setCell ⟨D, 1, none⟩ (.int .i64 y.delay)).setCell ⟨D, 2, none⟩ (.int .i64 y.at')).setCell ⟨D, 3, none⟩ (.int .i64 y.slewed)).setCell ⟨D + 1, 0, none⟩ (.bool true)).drew) = Wz := ⟨_, rfl⟩
        obtain ⟨y0, y1, hmz⟩ := hj2.out.put _ _ _ _ _ hWz
        rw [hWz]
        have hDz : Wz.heap[D + 5]? = some (.deferred (some [])) := hmz.heap hD2 (by omega)
        refine ⟨by simp, .inl ⟨_, _, rfl, run_takeDeferred hDz, ?_⟩⟩
        have hmq : Mod (· = D + 5) Wz (Wz.putObj (D + 5) (.deferred none)) := Mod.putObj (S := (· = D + 5)) (Mod.refl _ _) (Or.inl rfl) _
        refine ⟨_, resBest _ _ D _ _ _ _ _ _ rfl rfl rfl (hmq.heap y0 (by omega)) (hmq.heap y1 (by omega)), ?_⟩
        have hm1 := hm.out
        have hm2 := hm2.out
        refine ⟨by rw [ho]; rfl, ?_⟩
        exact (((hm5.into hm1 (fun k hk => Or.inr (by omega))).into hm2 (fun k hk => hk.elim)).into hmz (fun k hk => Or.inr (by omega))).into hmq (fun k hk => Or.inr (by omega))
end Go.Proofs.YtpjfiplejhbdfaaGreatDoor

