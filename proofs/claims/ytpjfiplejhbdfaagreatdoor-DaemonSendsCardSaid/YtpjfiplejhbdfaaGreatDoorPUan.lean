/- A ring of samples, a store (contracts). slices.Clone at samples, votes, int64 (contracts). conf.line: what it answers, and what it works on. -/
import Derived.Test.YtpjfiplejhbdfaaGreatDoorPUag
import Derived.Test.YtpjfiplejhbdfaaGreatDoorPUam
import Derived.StillTailTactics
import Derived.Laws.CopyRow
import Derived.Laws.EntriesVeiled
import Derived.Maps.AppendAt
import Derived.Test.YtpjfiplejhbdfaaGreatDoorPUaf
namespace Go.Proofs.YtpjfiplejhbdfaaGreatDoor
open Go.RowKit

abbrev SampleS.cells (x : SampleS) : List Value := [.int .i64 x.offset, .int .i64 x.delay, .int .i64 x.at', .int .i64 x.slewed]
def scells (l : List SampleS) : List Value := l.flatMap SampleS.cells
theorem scells_len (l : List SampleS) : (scells l).length = l.length * 4 := by
  induction l with
  | nil => rfl
  | cons x l ih => simp [scells] at ih ⊢; omega
theorem scells_app (l m : List SampleS) : scells (l ++ m) = scells l ++ scells m := by simp [scells]
theorem scells_cons (x : SampleS) (l : List SampleS) : scells (x :: l) = x.cells ++ scells l := rfl
theorem infoSmp : (Tryz.prog.info? 185).map (fun i => (i.zero, i.size, i.bytes)) = some (some (.agg #[.int .i64 0, .int .i64 0, .int .i64 0, .int .i64 0]), 4, 32) := by kernel_rfl
theorem run_copy_rowK {P : Program} (k : Nat) (w : World) (dT sT ty elem : TypeId) (g o dLen dCap : Nat) (a : Addr) (sLen sCap : Nat) (cur : Array Value) (t : TypeId) (cs : List Value)
    (hu : P.underlying dT = some (.slice elem)) (hs : (P.info? elem).map (·.size) = some k)
    (hg : w.heap[g]? = some (.cells cur t (0, 0))) (hn : cs.length = Nat.min sLen dLen * k)
    (hsrc : ∀ j v, cs[j]? = some v → w.cell? (a.add j) = some v) (hfit : o + cs.length ≤ cur.size) (h1 : ∀ v ∈ cs, v.oneCell' = true) :
    (Builtin.copy_ #[dT, sT] ty #[.slice (some ⟨g, o, none⟩) dLen dCap, .slice (some a) sLen sCap]).run P w =
      .ok (goInt (Nat.min sLen dLen)) (w.setRow g (cur.toList.take o ++ cs ++ cur.toList.drop (o + cs.length)).toArray) := by
  have hl := run_loadCells_list (P := P) w a cs hsrc
  have hst := run_storeCells_at P g o t cs 0 cur w hg (by simpa using hfit) h1
  cases hq : P.info? elem with
  | none => simp [hq] at hs
  | some i =>
    have hi : i.size = k := by simpa [hq] using hs
    simp [Builtin.copy_, run_underlying hu, Builtin.lenOf, Builtin.firstCells, sizeOf, typeInfo, hq, hi, ← hn, hl, hst]
/-- Block b holds a ring of at most eight samples; sl: its slice. -/
structure RingO (w : World) (b : Nat) (sl : Value) (xs : List SampleS) : Prop where
  blk : ∃ cnt, I64 cnt ∧ w.heap[b]? = some (.cells #[sl, .int .i64 8, .int .i64 cnt] 242 (0, 0))
  row : w.ownsRow 0 185 4 sl xs.length (scells xs)
theorem RingO.mod {S : Nat → Prop} {w w' : World} {b : Nat} {sl : Value} {xs : List SampleS} (h : RingO w b sl xs) (hm : Mod S w w') (hb : ¬ S b) (hs : ∀ g, sl.ownBlock = some g → ¬ S g) : RingO w' b sl xs := by
  obtain ⟨⟨cnt, hc, hblk⟩, hrow⟩ := h
  refine ⟨⟨cnt, hc, hm.heap hblk hb⟩, hrow.1, ?_⟩
  rcases hrow.2 with h0 | ⟨g, cap, cur, rfl, hb2, hg, r⟩
  · exact Or.inl h0
  · exact Or.inr ⟨g, cap, cur, rfl, hb2, hm.heap hg (hs g rfl), r⟩
theorem RingO.ne {w : World} {b : Nat} {sl : Value} {xs : List SampleS} (h : RingO w b sl xs) : ∀ g, sl.ownBlock = some g → g ≠ b := by
  obtain ⟨⟨cnt, hc, hblk⟩, hrow⟩ := h
  rcases hrow.2 with ⟨rfl, _⟩ | ⟨g, cap, cur, rfl, hb2, hg, r⟩
  · intro g hg; cases hg
  · intro g' hg' e
    cases hg'
    change g = b at e
    subst e
    rw [hg] at hblk
    have := (Obj.cells.inj (Option.some.inj hblk)).2.1
    exact absurd this (by decide)
theorem ownsRow_mod2 {S : Nat → Prop} {w w' : World} {base size n : Nat} {e : TypeId} {v : Value} {xs : List Value} (h : w.ownsRow base e size v n xs) (hm : Mod S w w') (hS : ∀ g, v.ownBlock = some g → ¬ S g) : w'.ownsRow base e size v n xs := by
  refine ⟨h.1, ?_⟩
  rcases h.2 with h0 | ⟨g, cap, cur, rfl, hb2, hg, r⟩
  · exact Or.inl h0
  · exact Or.inr ⟨g, cap, cur, rfl, hb2, hm.heap hg (hS g rfl), r⟩
/-- append onto a slice of one's own, as a step of a region that draws its order; where its row lies then. -/
theorem step_append_at {P : Program} {ops : Array Oper} {o : Oper} {a : Act} {w : World} {K : Act → World → Prop} {Q : Exit → Act → World → Prop} {E : Prop}
    (hg : o.guard = none) (s x : Operand) (t : TypeId) (ho : o.op = .call { callee := .builtin .append, args := #[s, x], argTypes := #[t, t] })
    (base : Nat) (e : TypeId) (i : TypeInfo) (z : Value) (size bytes : Nat) (ht : P.underlying t = some (.slice e)) (hi : P.info? e = some i) (hz : i.zero = some z)
    (hsize : i.size = size) (hby : i.bytes = bytes) (hzs : z.cells.size = size) (hsz : 0 < size)
    (v : Value) (n : Nat) (xs : List Value) (hs : a.eval s = v) (hown : w.ownsRow base e size v n xs)
    (ad : Addr) (m c : Nat) (news : List Value) (hx : a.eval x = .slice (some ad) m c) (hl : news.length = m * size) (hnews : ∀ j u, news[j]? = some u → w.cell? (ad.add j) = some u) (h1 : ∀ u ∈ news, u.oneCell' = true)
    (h63 : n + m ≤ maxLen) (hbytes : (n + m) * bytes ≤ 140737488355328) (hbase : base ≤ w.heap.size)
    (h : ∀ v' w', w'.ownsRow base e size v' (n + m) (xs ++ news) → w.grownBy w' v.ownBlock → (v'.ownBlock = v.ownBlock ∨ v'.ownBlock = some w.heap.size) → K (a.put o.dst v') w') :
    if Region.wanted o (yielded ops a.tmps) = true then Oper.wp P o a w K Q else E := by
  have hw : Region.wanted o (yielded ops a.tmps) = true := by simp [Region.wanted, hg]
  rw [if_pos hw]
  obtain ⟨v', w', hr, h2, h3, h4, h5⟩ := run_append_own_at (P := P) w base t o.type e i z size bytes ht hi hz hsize hby hzs hsz v n xs hown ad m c news hl hnews h1 h63 hbytes hbase
  unfold Oper.wp execOp
  simp only [ho, resolve, invoke, builtin, Sem.run_bind, Sem.run_pure, Result.andThen_ok, List.map_toArray, List.map_cons, List.map_nil, hs, hx, hr]
  exact h v' w' h2 h3 h5
theorem cells4_new (w : World) (x y z u : Value) (t : TypeId) : ∀ j v, [x, y, z, u][j]? = some v → (w.alloc (.cells #[x, y, z, u] t)).cell? ((⟨w.heap.size, 0, none⟩ : Addr).add j) = some v := by
  intro j v hj
  have hn := heap_alloc_new w (.cells #[x, y, z, u] t)
  rw [show ((⟨w.heap.size, 0, none⟩ : Addr).add j) = ⟨w.heap.size, j, none⟩ by simp [Addr.add]; omega]
  exact cell_of_block hn j (by simpa using hj)
theorem Mod.grownS {S : Nat → Prop} {a w w' : World} {row : Option Nat} (h : Mod S a w) (hg : w.grownBy w' row) (hr : ∀ k, row = some k → S k) : Mod S a w' :=
  ⟨hg.os.trans h.os, hg.tape.trans h.tape, hg.output.trans h.output, Nat.le_trans h.size hg.size, fun k hk hn =>
    (hg.block k (Nat.lt_of_lt_of_le hk h.size) (fun e => hn (hr k e.symm))).trans (h.block k hk hn)⟩
/-- The blocks of a ring. -/
def ringOwn (b : Nat) (sl : Value) : Nat → Prop := fun k => k = b ∨ sl.ownBlock = some k
set_option maxRecDepth 100000 in
set_option maxHeartbeats 8000000 in
theorem ringadd_any (b : Nat) (sl : Value) (xs : List SampleS) (x : SampleS) (w : World) (h : RingO w b sl xs) (hl : xs.length ≤ 8) :
    Calls Tryz.prog 148 #[at0 b, x.val] w fun e w' =>
      e = .returned (.int .i64 0) ∧ ∃ sl', RingO w' b sl' (storeAdd xs x) ∧ Mod (ringOwn b sl) w w' ∧ ∀ g, sl'.ownBlock = some g → sl.ownBlock = some g ∨ w.heap.size ≤ g := by
  have hne := h.ne
  obtain ⟨⟨cnt, hcnt, hblk⟩, hrow⟩ := h
  obtain ⟨p, c, rfl⟩ := own_value hrow
  have hlt := lt_of_block hblk
  have kb := hide (heap_alloc_old hlt (.cells #[.int .i64 x.offset, .int .i64 x.delay, .int .i64 x.at', .int .i64 x.slewed] 185) |>.trans hblk)
  have k0 := cell_of_block hblk 0 rfl
  have k1 := cell_of_block hblk 1 rfl
  have k2 := cell_of_block hblk 2 rfl
  have z0 := frozen_of_block hblk 0
  have z2 := frozen_of_block hblk 2
  have hbn : ¬ b = w.heap.size := by omega
  have hnb : ¬ w.heap.size = b := by omega
  have hcn64 : I64 (wrap64 (cnt + 1)) := by rw [wrap64_eq]; exact wrap_range _
  by_cases h8 : xs.length < 8
  · have hlb : (xs.length : Int) < 8 := by omega
    obtain ⟨i0, hi, hz0, hz1, hz2⟩ := info_parts infoSmp
    replace hi := hide hi
    replace hz0 := hide hz0
    replace hz1 := hide hz1
    replace hz2 := hide hz2
    replace hblk := hide hblk
    replace hrow := hide hrow
    go_enter Tryz.func148, Tryz.ntmps148
    go_wp2_with fail
    go_quiet (fail)
    go_wp2_with fail
    have hb5 : (((w.setCell ⟨b, 2, none⟩ (.int .i64 (wrap64 (cnt + 1)))).alloc (.cells #[.int .i64 x.offset, .int .i64 x.delay, .int .i64 x.at', .int .i64 x.slewed] 185)).drewN nq).heap[b]? = some (.cells #[.slice p xs.length c, .int .i64 8, .int .i64 (wrap64 (cnt + 1))] 242 (0, 0)) := by
      refine (heap_alloc_old (by simpa [World.setCell] using hlt) _).trans ?_
      rw [heap_setCell_eq hblk.out]
      simp
    have hx5 : (((w.setCell ⟨b, 2, none⟩ (.int .i64 (wrap64 (cnt + 1)))).alloc (.cells #[.int .i64 x.offset, .int .i64 x.delay, .int .i64 x.at', .int .i64 x.slewed] 185)).drewN nq).heap[w.heap.size]? = some (.cells #[.int .i64 x.offset, .int .i64 x.delay, .int .i64 x.at', .int .i64 x.slewed] 185 (0, 0)) := by
      have := heap_alloc_new (w.setCell ⟨b, 2, none⟩ (.int .i64 (wrap64 (cnt + 1)))) (.cells #[.int .i64 x.offset, .int .i64 x.delay, .int .i64 x.at', .int .i64 x.slewed] 185)
      rw [show (w.setCell ⟨b, 2, none⟩ (.int .i64 (wrap64 (cnt + 1)))).heap.size = w.heap.size by simp [World.setCell]] at this
      exact this
    have hm5 : Mod (· = b) w (((w.setCell ⟨b, 2, none⟩ (.int .i64 (wrap64 (cnt + 1)))).alloc (.cells #[.int .i64 x.offset, .int .i64 x.delay, .int .i64 x.at', .int .i64 x.slewed] 185)).drewN nq) := (((Mod.refl _ _).set1 _ _).alloc _).drewN nq
    generalize (((w.setCell ⟨b, 2, none⟩ (.int .i64 (wrap64 (cnt + 1)))).alloc (.cells #[.int .i64 x.offset, .int .i64 x.delay, .int .i64 x.at', .int .i64 x.slewed] 185)).drewN nq) = w5 at *
    have hrow5 := ownsRow_mod2 hrow.out hm5 (fun g hg => hne g hg)
    have a0 := cell_of_block hb5 0 rfl
    have fr0 := frozen_of_block hb5 0
    have x0 := cell_of_block hx5 0 rfl
    have x1 := cell_of_block hx5 1 rfl
    have x2 := cell_of_block hx5 2 rfl
    have x3 := cell_of_block hx5 3 rfl
    have hlt5 := lt_of_block hx5
    have hlb5 := lt_of_block hb5
    replace hb5 := hide hb5
    replace hx5 := hide hx5
    replace hrow5 := hide hrow5
    replace hm5 := hide hm5
    clear k0 k1 k2 z0 z2 kb
    go_region_law ((refine step_append_at rfl (.tmp 28) (.tmp 30) 240 rfl 0 185 i0 (.agg #[.int .i64 0, .int .i64 0, .int .i64 0, .int .i64 0]) 4 32 Tryz.underlying240 hi.out hz0.out hz1.out hz2.out rfl (by decide) (.slice p xs.length c) xs.length (scells xs) rfl ?o ⟨_, 0, none⟩ 1 1 x.cells rfl rfl ?n ?one ?m ?mb ?base ?_; (case o => exact (ownsRow_mod2 (S := NoB) hrow5.out ((Mod.refl _ _).alloc _).drew (fun _ _ f => f.elim))); (case n => exact cells4_new _ _ _ _ _ _); (case one => (intro u hu; simp at hu; rcases hu with rfl | rfl | rfl | rfl <;> rfl)); (case m => (unfold maxLen; omega)); (case mb => omega); (case base => omega); intro v' w7 hown' hgrow hat; obtain ⟨p', c', rfl⟩ := own_value hown'; have hm7 : Mod (fun k => (Value.slice p xs.length c).ownBlock = some k) w5 w7 := Mod.grownS (((Mod.refl _ _).alloc _).drew) hgrow (fun _ h => h); have hb7 := hm7.heap hb5.out (fun e => hne b e rfl); have d1 := cell_of_block hb7 0 rfl; have d2 := frozen_of_block hb7 0; have hbl := hm7.size; replace hown' := hide hown'; replace hb7 := hide hb7; have hat2 : Hid (∀ g, (Value.slice p' (xs.length + 1) c').ownBlock = some g → (Value.slice p xs.length c).ownBlock = some g ∨ w.heap.size ≤ g) := hide (fun g hg => hat.elim (fun h => Or.inl (h ▸ hg)) (fun h => Or.inr (by rw [h] at hg; cases hg; simp; omega))); replace hm7 := hide hm7; clear hgrow hat))
    all_goals
      have hfin : Mod (ringOwn b (.slice p xs.length c)) w (w7.setCell ⟨b, 0, none⟩ (.slice p' (xs.length + 1) c')) :=
        ((hm5.out.mono (fun _ _ h => Or.inl h)).trans (hm7.out.mono (fun _ _ h => Or.inr h))).setCell (Or.inl (Or.inl rfl)) _
      have hst : storeAdd xs x = xs ++ [x] := by unfold storeAdd; rw [if_pos h8]
      have hne' : ∀ g, (Value.slice p' (xs.length + 1) c').ownBlock = some g → g ≠ b := by
        intro g hg e
        subst e
        have hro := hown'.out.2
        rcases hro with ⟨h0, _⟩ | ⟨g', cap, cur, h0, _, hgg, _⟩
        · rw [h0] at hg; cases hg
        · rw [h0] at hg; cases hg
          rw [hb7.out] at hgg
          exact absurd (Obj.cells.inj (Option.some.inj hgg)).2.1 (by decide)
      have hro : RingO (w7.setCell ⟨b, 0, none⟩ (.slice p' (xs.length + 1) c')) b (.slice p' (xs.length + 1) c') (storeAdd xs x) := by
        refine ⟨⟨_, hcn64, ?_⟩, ?_⟩
        · rw [heap_setCell_eq hb7.out]; simp
        · rw [hst, List.length_append, scells_app]
          have := ownsRow_mod2 hown'.out ((Mod.refl (· = b) w7).set1 0 (.slice p' (xs.length + 1) c')) hne'
          simpa [scells] using this
      replace hfin := hide hfin
      replace hro := hide hro
      go_wp2_with fail
      go_ret
      exact ⟨rfl, _, hro.out, hfin.out, hat2.out⟩
  · have hx8 : xs.length = 8 := by omega
    have hlb : ¬ ((xs.length : Int) < 8) := by omega
    obtain ⟨g, cap, cur, hv, _, hg, hcap, hcm, hcs, htk⟩ : ∃ g cap cur, Value.slice p xs.length c = .slice (some ⟨g, 0, none⟩) xs.length cap ∧ 0 ≤ g ∧ w.heap[g]? = some (.cells cur 185 (0, 0)) ∧ xs.length ≤ cap ∧ cap ≤ maxLen ∧ cur.size = cap * 4 ∧ cur.toList.take (xs.length * 4) = scells xs := by
      rcases hrow.2 with ⟨h0, h1⟩ | h
      · omega
      · exact h
    cases hv
    have hgb : g ≠ b := hne g rfl
    have hx8' := hide hx8
    rw [hx8] at hblk hcap htk k0 hne hlb ⊢
    clear hx8
    replace hblk := hide hblk
    replace hg := hide hg
    replace htk := hide htk
    clear hrow
    go_enter Tryz.func148, Tryz.ntmps148
    go_wp2_with fail
    go_quiet (fail)
    go_wp2_with fail
    have hb5 : (((w.setCell ⟨b, 2, none⟩ (.int .i64 (wrap64 (cnt + 1)))).alloc (.cells #[.int .i64 x.offset, .int .i64 x.delay, .int .i64 x.at', .int .i64 x.slewed] 185)).drewN nq).heap[b]? = some (.cells #[.slice (some ⟨g, 0, none⟩) 8 c, .int .i64 8, .int .i64 (wrap64 (cnt + 1))] 242 (0, 0)) := by
      refine (heap_alloc_old (by simpa [World.setCell] using hlt) _).trans ?_
      rw [heap_setCell_eq hblk.out]
      simp
    have hx5 : (((w.setCell ⟨b, 2, none⟩ (.int .i64 (wrap64 (cnt + 1)))).alloc (.cells #[.int .i64 x.offset, .int .i64 x.delay, .int .i64 x.at', .int .i64 x.slewed] 185)).drewN nq).heap[w.heap.size]? = some (.cells #[.int .i64 x.offset, .int .i64 x.delay, .int .i64 x.at', .int .i64 x.slewed] 185 (0, 0)) := by
      have := heap_alloc_new (w.setCell ⟨b, 2, none⟩ (.int .i64 (wrap64 (cnt + 1)))) (.cells #[.int .i64 x.offset, .int .i64 x.delay, .int .i64 x.at', .int .i64 x.slewed] 185)
      rw [show (w.setCell ⟨b, 2, none⟩ (.int .i64 (wrap64 (cnt + 1)))).heap.size = w.heap.size by simp [World.setCell]] at this
      exact this
    have hm5 : Mod (· = b) w (((w.setCell ⟨b, 2, none⟩ (.int .i64 (wrap64 (cnt + 1)))).alloc (.cells #[.int .i64 x.offset, .int .i64 x.delay, .int .i64 x.at', .int .i64 x.slewed] 185)).drewN nq) := (((Mod.refl _ _).set1 _ _).alloc _).drewN nq
    generalize (((w.setCell ⟨b, 2, none⟩ (.int .i64 (wrap64 (cnt + 1)))).alloc (.cells #[.int .i64 x.offset, .int .i64 x.delay, .int .i64 x.at', .int .i64 x.slewed] 185)).drewN nq) = w5 at *
    have hg5 := hm5.heap hg.out hgb
    have a0 := cell_of_block hb5 0 rfl
    have hlg5 := lt_of_block hg.out
    replace hb5 := hide hb5
    replace hx5 := hide hx5
    replace hg5 := hide hg5
    replace hm5 := hide hm5
    clear k0 k1 k2 z0 z2 kb
    have hc1 : ¬ c = 1 := by omega
    have htl : (scells xs.tail).length = 28 := by rw [scells_len, List.length_tail, hx8'.out]
    have hcells : ∀ j, j < 32 → cur[j]? = (scells xs)[j]? := by
      intro j hj
      rw [← htk.out, List.getElem?_take_of_lt (by omega), Array.getElem?_toList]
    have hsplit : ∃ x0 : SampleS, scells xs = x0.cells ++ scells xs.tail := by
      cases xs with
      | nil => simp at hx8'; exact absurd hx8'.out (by decide)
      | cons x0 l => exact ⟨x0, rfl⟩
    have hcopy := run_copy_rowK (P := Tryz.prog) 4 w5.drew 240 240 3 185 g 0 8 c ⟨g, 4, none⟩ 7 (c - 1) cur _ (scells xs.tail) Tryz.underlying240 (by kernel_rfl) hg5.out (by rw [htl]; rfl)
      (by
        intro j v hj
        have hjl : j < 28 := by
          rcases Nat.lt_or_ge j 28 with h | h
          · exact h
          · rw [List.getElem?_eq_none (by omega)] at hj; cases hj
        obtain ⟨x0, hx0⟩ := hsplit
        have h2 := hcells (4 + j) (by omega)
        rw [hx0, List.getElem?_append_right (by simp)] at h2
        have h3 : (4 + j) - x0.cells.length = j := by simp
        rw [h3, hj] at h2
        have hcell := cell_of_block (w := w5.drew) hg5.out (4 + j) h2
        rw [show ((⟨g, 4, none⟩ : Addr).add j) = ⟨g, 4 + j, none⟩ by simp [Addr.add]]
        exact hcell)
      (by rw [htl]; omega) (by
        intro u hu
        obtain ⟨y, _, hy⟩ := List.mem_flatMap.1 hu
        simp at hy
        rcases hy with rfl | rfl | rfl | rfl <;> rfl)
    rw [show Nat.min 7 8 = 7 from rfl] at hcopy
    obtain ⟨cur2, hcur2⟩ : ∃ cur2, (cur.toList.take 0 ++ scells xs.tail ++ cur.toList.drop (0 + (scells xs.tail).length)).toArray = cur2 := ⟨_, rfl⟩
    rw [hcur2] at hcopy
    have hs2 : cur2.size = c * 4 := by rw [← hcur2]; simp [htl, hcs]; omega
    have ht2 : cur2.toList.take 28 = scells xs.tail := by
      rw [← hcur2]
      simp only [List.take_zero, List.nil_append]
      rw [← htl, List.take_left]
    clear hcur2 hcells hsplit
    obtain ⟨w6, hw6⟩ : ∃ w6, w5.drew.setRow g cur2 = w6 := ⟨_, rfl⟩
    have hg6 : w6.heap[g]? = some (.cells cur2 185 (0, 0)) := hw6 ▸ setRow_heap w5.drew g _ _ _ _ hg5.out
    have hm6 : Mod (· = g) w5 w6 := hw6 ▸ ⟨rfl, rfl, rfl, by simp [World.setRow], fun k _ hn => setRow_other w5.drew g k _ (fun e => hn e)⟩
    rw [hw6] at hcopy
    clear hw6
    have hb6 := hide (hm6.heap hb5.out (fun e => hgb e.symm))
    have hx6 := hide (hm6.heap hx5.out (by show ¬ w.heap.size = g; omega))
    go_still_tail 9, (by kernel_rfl)
    change wpList _ _ _ _ _ w5.drew
    go_wp2_with fail
    have a1 := cell_of_block hb6.out 0 rfl
    have x0 := cell_of_block hx6.out 0 rfl
    have x1 := cell_of_block hx6.out 1 rfl
    have x2 := cell_of_block hx6.out 2 rfl
    have x3 := cell_of_block hx6.out 3 rfl
    have hlx := lt_of_block hx6.out
    clear hcopy
    have hw7 : IntKind.i64.wrap 7 = 7 := by decide
    go_still_tail 12, (by kernel_rfl)
    change wpList _ _ _ _ _ w6.drew
    have hg7 : w6.drew.heap[g]? = some (.cells cur2 185 (0, 0)) := hg6
    have hm7 : Mod (· = g) w5 w6.drew := hm6.drew
    have hb7 := hide (hm7.heap hb5.out (fun e => hgb e.symm))
    clear hm6 hg6 hb6 hx6 x0 x1 x2 x3 a1 hlx
    generalize w6.drew = w7 at *
    have hex : ∀ k, k < 4 → ∃ y, cur2[28 + k]? = some y := fun k hk => ⟨cur2[28 + k]'(by omega), by simp [show 28 + k < cur2.size by omega]⟩
    obtain ⟨y0, hy0⟩ := hex 0 (by decide)
    obtain ⟨y1, hy1⟩ := hex 1 (by decide)
    obtain ⟨y2, hy2⟩ := hex 2 (by decide)
    obtain ⟨y3, hy3⟩ := hex 3 (by decide)
    have c0 := cell_of_block hg7 28 hy0
    have c1 := cell_of_block hg7 29 hy1
    have c2 := cell_of_block hg7 30 hy2
    have c3 := cell_of_block hg7 31 hy3
    have f0 := frozen_of_block hg7 28
    have f1 := frozen_of_block hg7 29
    have f2 := frozen_of_block hg7 30
    have f3 := frozen_of_block hg7 31
    have hgf : ((((w7.setCell ⟨g, 28, none⟩ (.int .i64 x.offset)).setCell ⟨g, 29, none⟩ (.int .i64 x.delay)).setCell ⟨g, 30, none⟩ (.int .i64 x.at')).setCell ⟨g, 31, none⟩ (.int .i64 x.slewed)).heap[g]? = _ :=
      heap_setCell_eq (heap_setCell_eq (heap_setCell_eq (heap_setCell_eq hg7 _) _) _) _
    have hmf : Mod (· = g) w7 ((((w7.setCell ⟨g, 28, none⟩ (.int .i64 x.offset)).setCell ⟨g, 29, none⟩ (.int .i64 x.delay)).setCell ⟨g, 30, none⟩ (.int .i64 x.at')).setCell ⟨g, 31, none⟩ (.int .i64 x.slewed)) :=
      ((((Mod.refl _ _).set1 _ _).set1 _ _).set1 _ _).set1 _ _
    obtain ⟨wf, hwf⟩ : ∃ wf, ((((w7.setCell ⟨g, 28, none⟩ (.int .i64 x.offset)).setCell ⟨g, 29, none⟩ (.int .i64 x.delay)).setCell ⟨g, 30, none⟩ (.int .i64 x.at')).setCell ⟨g, 31, none⟩ (.int .i64 x.slewed)) = wf := ⟨_, rfl⟩
    rw [hwf] at hgf hmf
    replace hgf := hide hgf
    replace hmf := hide hmf
    replace hwf := hide hwf
    replace hg7 := hide hg7
    clear hex hy0 hy1 hy2 hy3
    go_wp2_with fail
    have hwf := hwf.out
    rw [hwf]
    have hst : storeAdd xs x = xs.tail ++ [x] := by unfold storeAdd; rw [if_neg h8]
    have hlen : (xs.tail ++ [x]).length = 8 := by have := hx8'.out; simp; omega
    have hbf := (hmf.out.heap hb7.out (fun e => hgb e.symm))
    have hro : RingO wf b (.slice (some ⟨g, 0, none⟩) 8 c) (storeAdd xs x) := by
      refine ⟨⟨_, hcn64, hbf⟩, ?_⟩
      rw [hst, hlen, scells_app]
      refine ⟨by rw [List.length_append, htl]; rfl, Or.inr ⟨g, c, _, rfl, Nat.zero_le _, hgf.out, hcap, hcm, by simp [hs2], ?_⟩⟩
      apply List.ext_getElem?
      intro k
      have h28 : ∀ j, j < 28 → cur2[j]? = (scells xs.tail)[j]? := by
        intro j hj
        rw [← ht2, List.getElem?_take_of_lt hj, Array.getElem?_toList]
      rcases Nat.lt_or_ge k 28 with hk | hk
      · rw [List.getElem?_take_of_lt (by omega), Array.getElem?_toList, List.getElem?_append_left (by omega), ← h28 k hk]
        rw [Array.getElem?_setIfInBounds_ne (by omega), Array.getElem?_setIfInBounds_ne (by omega), Array.getElem?_setIfInBounds_ne (by omega), Array.getElem?_setIfInBounds_ne (by omega)]
      · rcases Nat.lt_or_ge k 32 with hk2 | hk2
        · rw [List.getElem?_take_of_lt (by omega), Array.getElem?_toList, List.getElem?_append_right (by omega), htl]
          obtain rfl | rfl | rfl | rfl : k = 28 ∨ k = 29 ∨ k = 30 ∨ k = 31 := by omega
          all_goals
            have hb28 : 28 < cur2.size := by omega
            have hb29 : 29 < cur2.size := by omega
            have hb30 : 30 < cur2.size := by omega
            have hb31 : 31 < cur2.size := by omega
            simp [scells, hb28, hb29, hb30, hb31]
        · rw [List.getElem?_eq_none (by simp; omega), List.getElem?_eq_none (by rw [List.length_append, htl]; simp [scells]; omega)]
    have hfin : Mod (ringOwn b (.slice (some ⟨g, 0, none⟩) 8 c)) w wf :=
      ((hm5.out.mono (fun _ _ h => Or.inl h)).trans (hm7.mono (fun _ _ h => Or.inr (by rw [h]; rfl)))).trans (hmf.out.mono (fun _ _ h => Or.inr (by rw [h]; rfl)))
    go_ret
    exact ⟨rfl, _, hro, hfin, fun g' hg' => Or.inl hg'⟩
end Go.Proofs.YtpjfiplejhbdfaaGreatDoor

namespace Go.Proofs.YtpjfiplejhbdfaaGreatDoor
set_option linter.unusedSimpArgs false
open Go.RowKit


theorem infoCS : (Tryz.prog.info? 185).map (fun i => (i.zero, i.size, i.bytes)) = some (some (.agg #[.int .i64 0, .int .i64 0, .int .i64 0, .int .i64 0]), 4, 32) := by kernel_rfl
theorem cloneS_nil (n c : Nat) (w : World) :
    Calls Tryz.prog 248 #[.slice none n c] w fun e w' => e = .returned (.slice none 0 0) ∧ w = w' := by
  have qS : ∀ (w : World) (a : Option Addr) (n c n' c' : Nat), (binOp .eql 240 (.slice a n c) (.slice none n' c')).run Tryz.prog w = .ok (.bool a.isNone) w := fun w a n c n' c' => Lib.run_eql_slice_nil w _ _ a n c n' c' Tryz.underlying240
  go_enter Tryz.func248, Tryz.ntmps248
  go_wp2
  go_ret
  exact ⟨rfl, rfl⟩
set_option maxRecDepth 100000 in
theorem cloneS_any (g off n c : Nat) (xs : List Value) (hx : xs.length = n * 4) (hn : n ≤ 100000) (h1 : ∀ u ∈ xs, u.oneCell' = true) (w : World) (hc : ∀ j u, xs[j]? = some u → w.cell? ⟨g, off + j, none⟩ = some u) :
    Calls Tryz.prog 248 #[.slice (some ⟨g, off, none⟩) n c] w fun e w' => ∃ v', e = .returned v' ∧ w'.ownsRow w.heap.size 185 4 v' n xs ∧ Mod NoB w w' := by
  have qS : ∀ (w : World) (a : Option Addr) (n c n' c' : Nat), (binOp .eql 240 (.slice a n c) (.slice none n' c')).run Tryz.prog w = .ok (.bool a.isNone) w := fun w a n c n' c' => Lib.run_eql_slice_nil w _ _ a n c n' c' Tryz.underlying240
  obtain ⟨i0, hi, hz0, hz1, hz2⟩ := info_parts infoCS
  have hown : (w.alloc (.cells #[] 185)).ownsRow w.heap.size 185 4 (.slice (some ⟨w.heap.size, 0, none⟩) 0 0) 0 [] :=
    ⟨rfl, Or.inr ⟨w.heap.size, 0, #[], rfl, Nat.le_refl _, heap_alloc_new _ _, Nat.le_refl _, by decide, rfl, rfl⟩⟩
  have hnews : ∀ j u, xs[j]? = some u → (w.alloc (.cells #[] 185)).cell? ((⟨g, off, none⟩ : Addr).add j) = some u := by
    intro j u hj
    rw [show ((⟨g, off, none⟩ : Addr).add j) = ⟨g, off + j, none⟩ by simp [Addr.add]]
    exact ((Mod.refl NoB w).alloc _).cellAt id (hc j u hj)
  have hm0 := (Mod.refl NoB w).alloc (.cells #[] 185)
  replace hown := hide hown
  replace hnews := hide hnews
  replace hm0 := hide hm0
  replace hx := hide hx
  replace h1 := hide h1
  replace hi := hide hi
  replace hz0 := hide hz0
  replace hz1 := hide hz1
  replace hz2 := hide hz2
  clear hc
  go_enter Tryz.func248, Tryz.ntmps248
  go_wp2_with (at_builtin; refine wpList_append_own_at _ rfl _ _ 240 rfl w.heap.size 185 i0 (.agg #[.int .i64 0, .int .i64 0, .int .i64 0, .int .i64 0]) 4 32 Tryz.underlying240 hi.out hz0.out hz1.out hz2.out rfl (by decide) (.slice (some ⟨w.heap.size, 0, none⟩) 0 0) 0 [] rfl hown.out ⟨g, off, none⟩ n c xs rfl hx.out hnews.out h1.out (by unfold maxLen; omega) (by omega) (by simp) ?_; intro v' w5 hown' hgrow _ hblk)
  have hm5 : Mod NoB w w5 := Mod.grown hm0.out hgrow (fun k hk => by cases hk; exact Nat.le_refl _)
  obtain ⟨a, cc, rfl⟩ := own_value hown'
  rw [Nat.zero_add] at hown' ⊢
  replace hown' := hide hown'
  replace hm5 := hide hm5
  clear hgrow hblk
  go_wp2_with fail
  go_ret
  exact ⟨_, rfl, by simpa using hown'.out, hm5.out⟩


theorem infoCL : (Tryz.prog.info? 2).map (fun i => (i.zero, i.size, i.bytes)) = some (some (.int .i64 0), 1, 8) := by kernel_rfl
set_option maxRecDepth 100000 in
theorem cloneL_any (g off n c : Nat) (xs : List Value) (hx : xs.length = n * 1) (hn : n ≤ 100000) (h1 : ∀ u ∈ xs, u.oneCell' = true) (w : World) (hc : ∀ j u, xs[j]? = some u → w.cell? ⟨g, off + j, none⟩ = some u) :
    Calls Tryz.prog 232 #[.slice (some ⟨g, off, none⟩) n c] w fun e w' => ∃ v', e = .returned v' ∧ w'.ownsRow w.heap.size 2 1 v' n xs ∧ Mod NoB w w' := by
  have qS : ∀ (w : World) (a : Option Addr) (n c n' c' : Nat), (binOp .eql 327 (.slice a n c) (.slice none n' c')).run Tryz.prog w = .ok (.bool a.isNone) w := fun w a n c n' c' => Lib.run_eql_slice_nil w _ _ a n c n' c' Tryz.underlying327
  obtain ⟨i0, hi, hz0, hz1, hz2⟩ := info_parts infoCL
  have hown : (w.alloc (.cells #[] 2)).ownsRow w.heap.size 2 1 (.slice (some ⟨w.heap.size, 0, none⟩) 0 0) 0 [] :=
    ⟨rfl, Or.inr ⟨w.heap.size, 0, #[], rfl, Nat.le_refl _, heap_alloc_new _ _, Nat.le_refl _, by decide, rfl, rfl⟩⟩
  have hnews : ∀ j u, xs[j]? = some u → (w.alloc (.cells #[] 2)).cell? ((⟨g, off, none⟩ : Addr).add j) = some u := by
    intro j u hj
    rw [show ((⟨g, off, none⟩ : Addr).add j) = ⟨g, off + j, none⟩ by simp [Addr.add]]
    exact ((Mod.refl NoB w).alloc _).cellAt id (hc j u hj)
  have hm0 := (Mod.refl NoB w).alloc (.cells #[] 2)
  replace hown := hide hown
  replace hnews := hide hnews
  replace hm0 := hide hm0
  replace hx := hide hx
  replace h1 := hide h1
  replace hi := hide hi
  replace hz0 := hide hz0
  replace hz1 := hide hz1
  replace hz2 := hide hz2
  clear hc
  go_enter Tryz.func232, Tryz.ntmps232
  go_wp2_with (at_builtin; refine wpList_append_own_at _ rfl _ _ 327 rfl w.heap.size 2 i0 (.int .i64 0) 1 8 Tryz.underlying327 hi.out hz0.out hz1.out hz2.out rfl (by decide) (.slice (some ⟨w.heap.size, 0, none⟩) 0 0) 0 [] rfl hown.out ⟨g, off, none⟩ n c xs rfl hx.out hnews.out h1.out (by unfold maxLen; omega) (by omega) (by simp) ?_; intro v' w5 hown' hgrow _ hblk)
  have hm5 : Mod NoB w w5 := Mod.grown hm0.out hgrow (fun k hk => by cases hk; exact Nat.le_refl _)
  obtain ⟨a, cc, rfl⟩ := own_value hown'
  rw [Nat.zero_add] at hown' ⊢
  replace hown' := hide hown'
  replace hm5 := hide hm5
  clear hgrow hblk
  go_wp2_with fail
  go_ret
  exact ⟨_, rfl, by simpa using hown'.out, hm5.out⟩

end Go.Proofs.YtpjfiplejhbdfaaGreatDoor

namespace Go.Proofs.YtpjfiplejhbdfaaGreatDoor
open Go.RowKit

/-- Which word is it? -/
def keyOf (s : List UInt8) : Option Nat := (List.range 5).find? fun k => keyW k == s
theorem keyOf_some {s : List UInt8} {k : Nat} (h : keyOf s = some k) : k < 5 ∧ keyW k = s := by
  unfold keyOf at h
  exact ⟨by simpa using List.mem_of_find?_eq_some h, by simpa using List.find?_some h⟩
theorem keyOf_none {s : List UInt8} (h : keyOf s = none) : ∀ k, k < 5 → keyW k ≠ s := by
  unfold keyOf at h
  intro k hk
  have := List.find?_eq_none.1 h k (by simpa using hk)
  simpa using this
theorem keyOf_keyW {k : Nat} (h : k < 5) : keyOf (keyW k) = some k := by
  have : ∀ k, k < 5 → keyOf (keyW k) = some k := by decide
  exact this k h
/-- The first error among words that are to be numbers. -/
def numsE : List (List UInt8) → Int
  | [] => 0
  | s :: r => if (numR s).2 = 0 then numsE r else (numR s).2
theorem numsE_at : ∀ {ws : List (List UInt8)} {i : Nat}, (∀ j, j < i → (numR (ws.getD j [])).2 = 0) → i < ws.length → (numR (ws.getD i [])).2 ≠ 0 → numsE ws = (numR (ws.getD i [])).2 := by
  intro ws
  induction ws with
  | nil => intro i _ h; simp at h
  | cons s r ih =>
    intro i h hi hne
    cases i with
    | zero => simp at hne ⊢; rw [numsE, if_neg hne]
    | succ i =>
      have h0 := h 0 (by omega)
      simp at h0
      rw [numsE, if_pos h0]
      have := ih (i := i) (fun j hj => by have := h (j + 1) (by omega); simpa using this) (by simp at hi; omega) (by simpa using hne)
      simpa using this
theorem numsE_all : ∀ {ws : List (List UInt8)}, (∀ j, j < ws.length → (numR (ws.getD j [])).2 = 0) → numsE ws = 0 := by
  intro ws
  induction ws with
  | nil => intro _; rfl
  | cons s r ih =>
    intro h
    have h0 := h 0 (by simp)
    simp at h0
    rw [numsE, if_pos h0]
    exact ih fun j hj => by have := h (j + 1) (by simp; omega); simpa using this
/-- A config, and which words were seen. -/
abbrev St := Cfg × (Nat → Bool)
def putF (a : Cfg) (k : Nat) (xs : List Int) : Cfg :=
  match k with
  | 1 => { a with q := xs.getD 0 0 }
  | 2 => { a with l := xs.getD 0 0, m := xs.getD 1 0 }
  | 3 => { a with d := xs.getD 0 0 }
  | 4 => { a with s := xs.getD 0 0 }
  | _ => a
def takeR (k : Nat) (xs : List Int) (st : St) : Int × St :=
  if k = 0 then (if inI st.1.srv (xs.getD 0 0) = true then (12, st) else if st.1.srv.length = 16 then (11, st) else (0, ({ st.1 with srv := st.1.srv ++ [xs.getD 0 0] }, st.2)))
  else (0, (putF st.1 k xs, st.2))
def lineK (k : Nat) (ws : List (List UInt8)) (st : St) : Int × St :=
  if (ws.length : Int) ≠ 1 + manyW k then (6, st) else if numsE (ws.drop 1) ≠ 0 then (numsE (ws.drop 1), st)
  else if st.2 k = true ∧ k ≠ 0 then (12, st) else takeR k ((ws.drop 1).map fun s => (numR s).1) (st.1, upd st.2 k true)
/-- What a line does. -/
def lineR (ws : List (List UInt8)) (st : St) : Int × St := match keyOf (ws.getD 0 []) with
  | none => (10, st)
  | some k => lineK k ws st

/-- A word's block, and what hangs on it, below base. -/
def WordB (base bc B0 : Nat) (k : Nat) (seen : Bool) (w : World) (b : Nat) : Prop :=
  b < base ∧ if k = 0 then w.heap[b]? = some (.cells #[.int .i64 1, .bool true, .bool seen, fServer B0] 161 (0, 0))
  else ∃ bl ba, bl < base ∧ ba < base ∧ w.heap[b]? = some (.cells #[.int .i64 (fieldsW k).length, .bool false, .bool seen, fTake bl] 161 (0, 0)) ∧
    w.heap[bl]? = some (.cells #[.slice (some ⟨ba, 0, none⟩) (fieldsW k).length (fieldsW k).length] 229 (0, 0)) ∧ w.heap[ba]? = some (.cells ((fieldsW k).map (at0c bc)).toArray 230 (0, 0))
theorem WordAt.below {bc B0 k : Nat} {seen : Bool} {w : World} {b : Nat} (h : WordAt bc B0 k seen w b) : WordB w.heap.size bc B0 k seen w b := by
  have hlt := h.lt
  refine ⟨hlt, ?_⟩
  unfold WordAt at h
  split at h
  · rename_i hk; rw [if_pos hk]; exact h
  · rename_i hk
    rw [if_neg hk]
    obtain ⟨bl, ba, h1, h2, h3⟩ := h
    exact ⟨bl, ba, lt_of_block h2, lt_of_block h3, h1, h2, h3⟩
theorem WordB.keep {S : Nat → Prop} {base bc B0 k : Nat} {seen : Bool} {w w' : World} {b : Nat} (h : WordB base bc B0 k seen w b) (hm : Mod S w w') (hS : ∀ x c t, x < base → w.heap[x]? = some (.cells c t (0, 0)) → (t = 161 ∨ t = 229 ∨ t = 230) → ¬ S x) : WordB base bc B0 k seen w' b := by
  obtain ⟨hb, h⟩ := h
  refine ⟨hb, ?_⟩
  split
  · rename_i hk
    rw [if_pos hk] at h
    exact hm.heap h (hS _ _ _ hb h (Or.inl rfl))
  · rename_i hk
    rw [if_neg hk] at h
    obtain ⟨bl, ba, l1, l2, h1, h2, h3⟩ := h
    exact ⟨bl, ba, l1, l2, hm.heap h1 (hS _ _ _ hb h1 (Or.inl rfl)), hm.heap h2 (hS _ _ _ l1 h2 (Or.inr (Or.inl rfl))), hm.heap h3 (hS _ _ _ l2 h3 (Or.inr (Or.inr rfl)))⟩

/-- What conf.line works on. -/
structure CM (base bc B0 bM : Nat) (b : Nat → Nat) (order : List Nat) (st : St) (w : World) : Prop where
  map : w.heap[bM]? = some (.map (ents (fun k => at0c (b k) 0) order).toArray order.length)
  nodup : order.Nodup
  all : ∀ k, k ∈ order ↔ k < 5
  box : w.heap[B0]? = some (.cells #[at0c bc 0] 144 (0, 0))
  word : ∀ k, k < 5 → WordB base bc B0 k (st.2 k) w (b k)
  apart : ∀ j k, j < 5 → k < 5 → j ≠ k → b j ≠ b k
  cfg : CfgAt base bc st.1 w
  low : bc < base ∧ B0 < base ∧ bM < base
  ahead : bc < B0 ∧ B0 < bM ∧ ∀ k, k < 5 → bc < b k
  size : base ≤ w.heap.size
theorem CM.keep {base bc B0 bM : Nat} {b : Nat → Nat} {order : List Nat} {st : St} {w w' : World} (h : CM base bc B0 bM b order st w) (hm : Mod NoB w w') : CM base bc B0 bM b order st w' :=
  ⟨hm.heap h.map id, h.nodup, h.all, hm.heap h.box id, fun k hk => (h.word k hk).keep hm (fun _ _ _ _ _ _ f => f.elim), h.apart, let ⟨v, h1, h2⟩ := h.cfg; ⟨v, hm.heap h1 id, ownsRow_mod h2 hm (fun _ f => f.elim)⟩, h.low, h.ahead, Nat.le_trans h.size hm.size⟩
end Go.Proofs.YtpjfiplejhbdfaaGreatDoor

