/- fresh.Store.Best (contract). median at int64 (contracts). quorum.Choose (contract). -/
import Derived.Test.YtjlilmonpklghaaGreatDoorPUap
import Derived.Test.YtjlilmonpklghaaGreatDoorPUai
import Derived.RegionIn
import Derived.Test.YtjlilmonpklghaaGreatDoorPUab
import Derived.Sort.Grow
import Derived.Deep.OwnRows
namespace Go.Proofs.YtjlilmonpklghaaGreatDoor
set_option linter.unusedSimpArgs false
open Go.RowKit Go.Shelf
attribute [local go_sem] Oper.semAt_some

theorem ffresh_any (b : Nat) (h life : Int) (w : World) :
    Calls Tryz.prog 275 #[at0 b, .int .i64 h, .int .i64 life] w fun e w' =>
      e = .returned (.func (.func 290) #[] #[at0 w.heap.size, at0 (w.heap.size + 1), at0 (w.heap.size + 1 + 1)]) ∧
      w' = ((w.alloc (.cells #[at0 b] 149)).alloc (.cells #[.int .i64 h] 2)).alloc (.cells #[.int .i64 life] 2) := by
  go_enter Tryz.func275, Tryz.ntmps275
  go_wp2
  go_ret
  exact ⟨rfl, rfl⟩
/-- What Best answers. -/
def BestE (o : Option SampleS) (slewed : Int) (e : Ending) : Prop := match o with
  | none => e = .returned (.tuple #[.agg #[.int .i64 0, .int .i64 0, .int .i64 0, .int .i64 0], .int .i64 0, .bool false])
  | some x => e = .returned (.tuple #[x.val, .int .i64 (nowS x slewed), .bool true])
def zeroS : SampleS := ⟨0, 0, 0, 0⟩
/-- The best one's cells, and whether there is one. -/
structure BestJ (D : Nat) (o : Option SampleS) (W : World) : Prop where
  c : W.heap[D]? = some (.cells (o.getD zeroS).cells.toArray 94 (0, 0))
  k : W.heap[D + 1]? = some (.cells #[.bool o.isSome] 4 (0, 0))
theorem best_mem {xs : List SampleS} {h life : Int} : ∀ x, bestS xs h life = some x → x ∈ xs := by
  have key : ∀ (l : List SampleS) (o : Option SampleS) x, l.foldl pickS o = some x → x ∈ l ∨ o = some x := by
    intro l
    induction l with
    | nil => intro o x h; exact Or.inr h
    | cons y l ih =>
      intro o x h
      rcases ih _ _ h with h | h
      · exact Or.inl (by simp [h])
      · cases o with
        | none => cases h; exact Or.inl (by simp)
        | some b =>
          simp only [pickS] at h
          split at h
          · exact Or.inr h
          · cases h; exact Or.inl (by simp)
  intro x hx
  rcases key _ _ _ hx with h | h
  · exact (List.mem_filter.1 h).1
  · cases h
theorem BestJ.take {D : Nat} {o : Option SampleS} {W : World} (hj : BestJ D o W) (x : SampleS) :
    BestJ D (some x) (((((W.setCell ⟨D, 0, none⟩ (.int .i64 x.offset)).setCell ⟨D, 1, none⟩ (.int .i64 x.delay)).setCell ⟨D, 2, none⟩ (.int .i64 x.at')).setCell ⟨D, 3, none⟩ (.int .i64 x.slewed)).setCell ⟨D + 1, 0, none⟩ (.bool true)) ∧
    Mod (fun k => k = D ∨ k = D + 1) W (((((W.setCell ⟨D, 0, none⟩ (.int .i64 x.offset)).setCell ⟨D, 1, none⟩ (.int .i64 x.delay)).setCell ⟨D, 2, none⟩ (.int .i64 x.at')).setCell ⟨D, 3, none⟩ (.int .i64 x.slewed)).setCell ⟨D + 1, 0, none⟩ (.bool true)) := by
  refine ⟨⟨?_, ?_⟩, ((((((Mod.refl _ _).setCell (Or.inl (Or.inl rfl)) _).setCell (Or.inl (Or.inl rfl)) _).setCell (Or.inl (Or.inl rfl)) _).setCell (Or.inl (Or.inl rfl)) _).setCell (Or.inl (Or.inr rfl)) _)⟩
  · rw [heap_setCell_ne (by simp), heap_setCell_eq (heap_setCell_eq (heap_setCell_eq (heap_setCell_eq hj.c _) _) _)]
    simp
  · rw [heap_setCell_eq (c := #[.bool o.isSome]) (t := 4) (fr := (0, 0))]
    · simp
    · rw [heap_setCell_ne (by simp), heap_setCell_ne (by simp), heap_setCell_ne (by simp), heap_setCell_ne (by simp)]
      exact hj.k
theorem BestJ.put {D : Nat} {o : Option SampleS} {W : World} (hj : BestJ D o W) (x y z u : Value) (k : Bool) {Wz : World}
    (hW : ((((((W.setCell ⟨D, 0, none⟩ x).setCell ⟨D, 1, none⟩ y).setCell ⟨D, 2, none⟩ z).setCell ⟨D, 3, none⟩ u).setCell ⟨D + 1, 0, none⟩ (.bool k)).drew) = Wz) :
    Wz.heap[D]? = some (.cells #[x, y, z, u] 94 (0, 0)) ∧ Wz.heap[D + 1]? = some (.cells #[.bool k] 4 (0, 0)) ∧ Mod (fun k => k = D ∨ k = D + 1) W Wz := by
  obtain ⟨Wv, hv⟩ : ∃ Wv, (((((W.setCell ⟨D, 0, none⟩ x).setCell ⟨D, 1, none⟩ y).setCell ⟨D, 2, none⟩ z).setCell ⟨D, 3, none⟩ u).setCell ⟨D + 1, 0, none⟩ (.bool k)) = Wv := ⟨_, rfl⟩
  rw [hv] at hW
  subst hW
  have g0 : Wv.heap[D]? = some (.cells #[x, y, z, u] 94 (0, 0)) := by
    rw [← hv, heap_setCell_ne (by simp), heap_setCell_eq (heap_setCell_eq (heap_setCell_eq (heap_setCell_eq hj.c _) _) _)]
    simp
  have g1 : Wv.heap[D + 1]? = some (.cells #[.bool k] 4 (0, 0)) := by
    rw [← hv, heap_setCell_eq (c := #[.bool o.isSome]) (t := 4) (fr := (0, 0))]
    · simp
    · rw [heap_setCell_ne (by simp), heap_setCell_ne (by simp), heap_setCell_ne (by simp), heap_setCell_ne (by simp)]
      exact hj.k
  have hm : Mod (fun k => k = D ∨ k = D + 1) W Wv := by
    rw [← hv]
    exact (((((Mod.refl _ _).setCell (Or.inl (Or.inl rfl)) _).setCell (Or.inl (Or.inl rfl)) _).setCell (Or.inl (Or.inl rfl)) _).setCell (Or.inl (Or.inl rfl)) _).setCell (Or.inl (Or.inr rfl)) _
  exact ⟨g0, g1, hm.drew⟩
theorem resBest (tmps : Array Value) (W : World) (D : Nat) (x y z u v : Value) (k : Bool) (ha : tmps[8]?.getD undef = .pointer (some ⟨D, 0, none⟩)) (hb : tmps[10]?.getD undef = .pointer (some ⟨D + 1, 0, none⟩)) (hc : tmps[9]?.getD undef = v)
    (h0 : W.heap[D]? = some (.cells #[x, y, z, u] 94 (0, 0))) (h1 : W.heap[D + 1]? = some (.cells #[.bool k] 4 (0, 0))) :
    (results Tryz.f246 tmps).run Tryz.prog W = .ok (.tuple #[.agg #[x, y, z, u], v, .bool k]) W := by
  have k0 := cell_of_block h0 0 rfl
  have k1 := cell_of_block h0 1 rfl
  have k2 := cell_of_block h0 2 rfl
  have k3 := cell_of_block h0 3 rfl
  have k4 := cell_of_block h1 0 rfl
  simp [results, Tryz.results246, go_sem, ha, hb, hc, k0, k1, k2, k3, k4]
set_option maxHeartbeats 8000000 in
theorem best_any (b rb : Nat) (sl : Value) (xs : List SampleS) (h life slewed : Int) (w : World) (hst : StoreO w b rb sl xs) (hl : xs.length ≤ 8) (hok : ∀ x ∈ xs, x.Ok) (hh : I64 h) (hz : I64 slewed) :
    Calls Tryz.prog 246 #[at0 b, .int .i64 h, .int .i64 life, .int .i64 slewed] w fun e w' =>
      BestE (bestS xs h life) slewed e ∧ Mod NoB w w' := by
  have hlb := lt_of_block hst.blk
  replace hst := hide hst
  refine (callsIn_wide (n := 9)).1 ?_
  refine callsIn_of_wp_marks Tryz.func246 rfl trivial ?_ rfl
  simp only [Tryz.ntmps246, List.size_toArray, List.length_cons, List.length_nil, Nat.reduceAdd, Nat.reduceSub, Array.replicate_succ, Array.replicate_zero, List.push_toArray, List.append_toArray, List.nil_append, List.cons_append]
  gi_wp2_with fail
  refine ⟨trivial, (callsIn_wide.2 (ffresh_any b h life _)).mono ?_⟩
  rintro e w' ⟨rfl, rfl⟩
  gi_wp2_with fail
  have hm5 : Mod NoB w (((((w.alloc (.cells #[.int .i64 0, .int .i64 0, .int .i64 0, .int .i64 0] 94)).alloc (.cells #[.bool false] 4)).alloc (.cells #[at0 b] 149)).alloc (.cells #[.int .i64 h] 2)).alloc (.cells #[.int .i64 life] 2)) :=
    (((((Mod.refl _ _).alloc _).alloc _).alloc _).alloc _).alloc _
  have g0 : (((((w.alloc (.cells #[.int .i64 0, .int .i64 0, .int .i64 0, .int .i64 0] 94)).alloc (.cells #[.bool false] 4)).alloc (.cells #[at0 b] 149)).alloc (.cells #[.int .i64 h] 2)).alloc (.cells #[.int .i64 life] 2)).heap[w.heap.size]? = some (.cells #[.int .i64 0, .int .i64 0, .int .i64 0, .int .i64 0] 94 (0, 0)) := by
    simp only [alloc_get, World.size_alloc]
    repeat (first | rw [if_pos (by omega)] | rw [if_neg (by omega)])
    try exact if_pos trivial
  have g1 : (((((w.alloc (.cells #[.int .i64 0, .int .i64 0, .int .i64 0, .int .i64 0] 94)).alloc (.cells #[.bool false] 4)).alloc (.cells #[at0 b] 149)).alloc (.cells #[.int .i64 h] 2)).alloc (.cells #[.int .i64 life] 2)).heap[w.heap.size + 1]? = some (.cells #[.bool false] 4 (0, 0)) := by
    simp only [alloc_get, World.size_alloc]
    repeat (first | rw [if_pos (by omega)] | rw [if_neg (by omega)])
    try exact if_pos trivial
  have g2 : (((((w.alloc (.cells #[.int .i64 0, .int .i64 0, .int .i64 0, .int .i64 0] 94)).alloc (.cells #[.bool false] 4)).alloc (.cells #[at0 b] 149)).alloc (.cells #[.int .i64 h] 2)).alloc (.cells #[.int .i64 life] 2)).heap[w.heap.size + 1 + 1]? = some (.cells #[at0 b] 149 (0, 0)) := by
    simp only [alloc_get, World.size_alloc]
    repeat (first | rw [if_pos (by omega)] | rw [if_neg (by omega)])
    try exact if_pos trivial
  have g3 : (((((w.alloc (.cells #[.int .i64 0, .int .i64 0, .int .i64 0, .int .i64 0] 94)).alloc (.cells #[.bool false] 4)).alloc (.cells #[at0 b] 149)).alloc (.cells #[.int .i64 h] 2)).alloc (.cells #[.int .i64 life] 2)).heap[w.heap.size + 1 + 1 + 1]? = some (.cells #[.int .i64 h] 2 (0, 0)) := by
    simp only [alloc_get, World.size_alloc]
    repeat (first | rw [if_pos (by omega)] | rw [if_neg (by omega)])
    try exact if_pos trivial
  have g4 : (((((w.alloc (.cells #[.int .i64 0, .int .i64 0, .int .i64 0, .int .i64 0] 94)).alloc (.cells #[.bool false] 4)).alloc (.cells #[at0 b] 149)).alloc (.cells #[.int .i64 h] 2)).alloc (.cells #[.int .i64 life] 2)).heap[w.heap.size + 1 + 1 + 1 + 1]? = some (.cells #[.int .i64 life] 2 (0, 0)) := by
    simp only [alloc_get, World.size_alloc]
    repeat (first | rw [if_pos (by omega)] | rw [if_neg (by omega)])
    try exact if_pos trivial
  have hsz : (((((w.alloc (.cells #[.int .i64 0, .int .i64 0, .int .i64 0, .int .i64 0] 94)).alloc (.cells #[.bool false] 4)).alloc (.cells #[at0 b] 149)).alloc (.cells #[.int .i64 h] 2)).alloc (.cells #[.int .i64 life] 2)).heap.size = w.heap.size + 5 := by simp
  generalize (((((w.alloc (.cells #[.int .i64 0, .int .i64 0, .int .i64 0, .int .i64 0] 94)).alloc (.cells #[.bool false] 4)).alloc (.cells #[at0 b] 149)).alloc (.cells #[.int .i64 h] 2)).alloc (.cells #[.int .i64 life] 2)) = w5 at *
  generalize hD : w.heap.size = D at *
  have hst5 := hst.out.mod hm5 id id (fun _ _ => id)
  refine rangeFresh 9 b rb sl xs h life (D + 1 + 1) (D + 1 + 1 + 1) (D + 1 + 1 + 1 + 1) rfl rfl (fun k => k = D ∨ k = D + 1) (BestJ D)
    (fun o W W' hj hm => ⟨hm.heap hj.c id, hm.heap hj.k id⟩)
    (by rw [hsz]; exact fun o W k o' a1 a2 hj => ⟨(World.putObj_heap_other (by omega)).trans hj.c, (World.putObj_heap_other (by omega)).trans hj.k⟩)
    hst5 hl hok hh (cell_of_block g2 0 rfl) (cell_of_block g3 0 rfl) (cell_of_block g4 0 rfl) (by omega) (by omega) (by rintro k (h | h) <;> omega) ⟨g0, g1⟩
    (fun x g => { tmps := #[at0 b, .int .i64 h, .int .i64 life, .int .i64 slewed, undef, undef, undef, undef, at0 D, .int .i64 0, at0 (D + 1), at0 g, at0 b, .int .i64 h, .int .i64 life,
      .func (.func 290) #[] #[at0 (D + 1 + 1), at0 (D + 1 + 1 + 1), at0 (D + 1 + 1 + 1 + 1)], x.val, undef, undef, undef, undef, undef, undef, undef, undef, undef, undef, undef, undef, undef, undef, undef, undef], defers := [] }) ?assign ?body ?done
  case assign =>
    intro l2 x W K hK
    gi_wp2
    exact hK
  case body =>
    rintro l2 o x W g hg hx hj
    rw [hsz] at hg
    have a0 := cell_of_block hx 0 rfl
    have a1 := cell_of_block hx 1 rfl
    have a2 := cell_of_block hx 2 rfl
    have a3 := cell_of_block hx 3 rfl
    have hlg := lt_of_block hx
    have hlD := lt_of_block hj.c
    have hlk := lt_of_block hj.k
    have z0 := frozen_of_block hj.c 0
    have z1 := frozen_of_block hj.c 1
    have z2 := frozen_of_block hj.c 2
    have z3 := frozen_of_block hj.c 3
    have zk := frozen_of_block hj.k 0
    have hbt : ∀ (y : SampleS) w', Calls Tryz.prog 276 #[y.val, x.val] w' fun e w'' => e = .returned (.bool (betterS y x)) ∧ Mod NoB w' w'' := fun y w' => better_any y.offset y.delay y.at' y.slewed x.offset x.delay x.at' x.slewed w'
    replace hbt := hide hbt
    cases o with
    | none =>
      have k0 := cell_of_block hj.k 0 (v := .bool false) rfl
      have b0 := cell_of_block hj.c 0 (v := .int .i64 0) rfl
      have b1 := cell_of_block hj.c 1 (v := .int .i64 0) rfl
      have b2 := cell_of_block hj.c 2 (v := .int .i64 0) rfl
      have b3 := cell_of_block hj.c 3 (v := .int .i64 0) rfl
      replace hj := hide hj
      replace hx := hide hx
      gi_wp2_with fail
      refine ⟨trivial, ?_⟩
      have ht := hide (hj.out.take x)
      gi_wp2
      exact ⟨ht.out.1, ht.out.2⟩
    | some y =>
      have k0 := cell_of_block hj.k 0 (v := .bool true) rfl
      have b0 := cell_of_block hj.c 0 (v := .int .i64 y.offset) rfl
      have b1 := cell_of_block hj.c 1 (v := .int .i64 y.delay) rfl
      have b2 := cell_of_block hj.c 2 (v := .int .i64 y.at') rfl
      have b3 := cell_of_block hj.c 3 (v := .int .i64 y.slewed) rfl
      replace hj := hide hj
      replace hx := hide hx
      gi_wp2_with fail
      refine ⟨trivial, ((callsIn_wide.2 (hbt.out y _)).inRound l2).mono ?_⟩
      rintro e W2 ⟨rfl, hm2⟩
      have hm2 : Mod NoB W W2 := hm2
      have hx2 := hm2.heap hx.out id
      have hj2 : BestJ D (some y) W2 := ⟨hm2.heap hj.out.c id, hm2.heap hj.out.k id⟩
      clear a0 a1 a2 a3 b0 b1 b2 b3 k0 z0 z1 z2 z3 zk hlg hlD hlk
      have a0 := cell_of_block hx2 0 rfl
      have a1 := cell_of_block hx2 1 rfl
      have a2 := cell_of_block hx2 2 rfl
      have a3 := cell_of_block hx2 3 rfl
      have z0 := frozen_of_block hj2.c 0
      have z1 := frozen_of_block hj2.c 1
      have z2 := frozen_of_block hj2.c 2
      have z3 := frozen_of_block hj2.c 3
      have zk := frozen_of_block hj2.k 0
      have k0 := cell_of_block hj2.k 0 (v := .bool true) rfl
      have b0 := cell_of_block hj2.c 0 (v := .int .i64 y.offset) rfl
      have b1 := cell_of_block hj2.c 1 (v := .int .i64 y.delay) rfl
      have b2 := cell_of_block hj2.c 2 (v := .int .i64 y.at') rfl
      have b3 := cell_of_block hj2.c 3 (v := .int .i64 y.slewed) rfl
      have hpk : Hid (pickS (some y) x = if betterS y x then some y else some x) := hide rfl
      have ht := hide (hj2.take x)
      replace hj2 := hide hj2
      replace hm2 := hide hm2
      clear hx2
      cases hb : betterS y x with
      | true =>
        have hpk2 : Hid (pickS (some y) x = some y) := hide (by rw [hpk.out, hb]; rfl)
        replace hb := hide hb
        gi_wp2
        rw [hpk2.out]
        have hm2 := hm2.out
        exact ⟨hj2.out, hm2.mono (fun _ _ f => f.elim)⟩
      | false =>
        have hpk2 : Hid (pickS (some y) x = some x) := hide (by rw [hpk.out, hb]; rfl)
        replace hb := hide hb
        gi_wp2
        rw [hpk2.out]
        have hm2 := hm2.out
        exact ⟨ht.out.1, (hm2.mono (fun _ _ f => f.elim)).trans ht.out.2⟩
  case done =>
    rintro W hj hm hD
    have hmx : Tryz.prog.follows .mixedOrders = true := by kernel_rfl
    rw [hsz] at hD ⊢
    cases ho : bestS xs h life with
    | none =>
      rw [ho] at hj
      have k0 := cell_of_block hj.k 0 (v := .bool false) rfl
      have zk := frozen_of_block hj.k 0
      have b0 := cell_of_block hj.c 0 (v := .int .i64 0) rfl
      have b1 := cell_of_block hj.c 1 (v := .int .i64 0) rfl
      have b2 := cell_of_block hj.c 2 (v := .int .i64 0) rfl
      have b3 := cell_of_block hj.c 3 (v := .int .i64 0) rfl
      have z0 := frozen_of_block hj.c 0
      have z1 := frozen_of_block hj.c 1
      have z2 := frozen_of_block hj.c 2
      have z3 := frozen_of_block hj.c 3
      replace hj := hide hj
      replace hm := hide hm
      gi_wp2_with fail
      gi_region
      all_goals gi_wp2
      all_goals
        obtain ⟨Wz, hWz⟩ : ∃ Wz, ((((((W.setCell ⟨D, 0, none⟩ (.int .i64 0)).setCell ⟨D, 1, none⟩ (.int .i64 0)).setCell ⟨D, 2, none⟩ (.int .i64 0)).setCell ⟨D, 3, none⟩ (.int .i64 0)).setCell ⟨D + 1, 0, none⟩ (.bool false)).drew) = Wz := ⟨_, rfl⟩
        obtain ⟨y0, y1, hmz⟩ := hj.out.put _ _ _ _ _ hWz
        rw [hWz]
        have hDz : Wz.heap[D + 5]? = some (.deferred (some [])) := hmz.heap hD (by omega)
        refine ⟨by simp, .inl ⟨_, _, rfl, run_takeDeferred hDz, ?_⟩⟩
        have hmq : Mod (· = D + 5) Wz (Wz.putObj (D + 5) (.deferred none)) := Mod.putObj (S := (· = D + 5)) (Mod.refl _ _) (Or.inl rfl) _
        refine ⟨_, resBest _ _ D _ _ _ _ _ _ rfl rfl rfl (hmq.heap y0 (by omega)) (hmq.heap y1 (by omega)), ?_⟩
        have hm1 := hm.out
        refine ⟨by rw [ho]; rfl, ?_⟩
        exact ((hm5.into hm1 (fun k hk => Or.inr (by omega))).into hmz (fun k hk => Or.inr (by omega))).into hmq (fun k hk => Or.inr (by omega))
    | some y =>
      rw [ho] at hj
      have hyo := hok _ (best_mem y ho)
      have hnw : ∀ w', Calls Tryz.prog 277 #[y.val, .int .i64 slewed] w' fun e w'' => e = .returned (.int .i64 (nowS y slewed)) ∧ Mod NoB w' w'' := fun w' => snow_any y.offset y.delay y.at' y.slewed slewed hyo.o hyo.s hz w'
      replace hnw := hide hnw
      have k0 := cell_of_block hj.k 0 (v := .bool true) rfl
      have b0 := cell_of_block hj.c 0 (v := .int .i64 y.offset) rfl
      have b1 := cell_of_block hj.c 1 (v := .int .i64 y.delay) rfl
      have b2 := cell_of_block hj.c 2 (v := .int .i64 y.at') rfl
      have b3 := cell_of_block hj.c 3 (v := .int .i64 y.slewed) rfl
      replace hj := hide hj
      replace hm := hide hm
      gi_wp2_with fail
      refine ⟨trivial, (callsIn_wide.2 (hnw.out _)).mono ?_⟩
      rintro e W2 ⟨rfl, hm2⟩
      have hm2 : Mod NoB W W2 := hm2
      have hj2 : BestJ D (some y) W2 := ⟨hm2.heap hj.out.c id, hm2.heap hj.out.k id⟩
      have hD2 := hm2.heap hD id
      clear k0 b0 b1 b2 b3
      have k0 := cell_of_block hj2.k 0 (v := .bool true) rfl
      have zk := frozen_of_block hj2.k 0
      have b0 := cell_of_block hj2.c 0 (v := .int .i64 y.offset) rfl
      have b1 := cell_of_block hj2.c 1 (v := .int .i64 y.delay) rfl
      have b2 := cell_of_block hj2.c 2 (v := .int .i64 y.at') rfl
      have b3 := cell_of_block hj2.c 3 (v := .int .i64 y.slewed) rfl
      have z0 := frozen_of_block hj2.c 0
      have z1 := frozen_of_block hj2.c 1
      have z2 := frozen_of_block hj2.c 2
      have z3 := frozen_of_block hj2.c 3
      replace hj2 := hide hj2
      replace hm2 := hide hm2
      gi_wp2_with fail
      gi_region
      all_goals gi_wp2
      all_goals
        obtain ⟨Wz, hWz⟩ : ∃ Wz, ((((((W2.setCell ⟨D, 0, none⟩ (.int .i64 y.offset)).setCell ⟨D, 1, none⟩ (.int .i64 y.delay)).setCell ⟨D, 2, none⟩ (.int .i64 y.at')).setCell ⟨D, 3, none⟩ (.int .i64 y.slewed)).setCell ⟨D + 1, 0, none⟩ (.bool true)).drew) = Wz := ⟨_, rfl⟩
        obtain ⟨y0, y1, hmz⟩ := hj2.out.put _ _ _ _ _ hWz
        rw [hWz]
        have hDz : Wz.heap[D + 5]? = some (.deferred (some [])) := hmz.heap hD2 (by omega)
        refine ⟨by simp, .inl ⟨_, _, rfl, run_takeDeferred hDz, ?_⟩⟩
        have hmq : Mod (· = D + 5) Wz (Wz.putObj (D + 5) (.deferred none)) := Mod.putObj (S := (· = D + 5)) (Mod.refl _ _) (Or.inl rfl) _
        refine ⟨_, resBest _ _ D _ _ _ _ _ _ rfl rfl rfl (hmq.heap y0 (by omega)) (hmq.heap y1 (by omega)), ?_⟩
        have hm1 := hm.out
        have hm2 := hm2.out
        refine ⟨by rw [ho]; rfl, ?_⟩
        exact (((hm5.into hm1 (fun k hk => Or.inr (by omega))).into hm2 (fun k hk => hk.elim)).into hmz (fun k hk => Or.inr (by omega))).into hmq (fun k hk => Or.inr (by omega))
end Go.Proofs.YtjlilmonpklghaaGreatDoor

namespace Go.Proofs.YtjlilmonpklghaaGreatDoor
set_option linter.unusedSimpArgs false
open Go.RowKit Go.Sort

theorem sortI_len (l : List Int) : (sortI l).length = l.length := by simp [sortI]
theorem mod_sorted (w : World) (n blk off : Nat) (d : Array Int) (os : Array Obj) : Mod (· = blk) w (grow (putRow (Value.int .i64) (Sort.ahead w n) blk off d) os) := by
  refine ⟨rfl, rfl, rfl, by simp, fun k hk hn => ?_⟩
  rw [heap_grow_old _ _ (by simpa using hk)]
  show ((Sort.ahead w n).heap.modify blk _)[k]? = _
  rw [Array.getElem?_modify, if_neg (fun e => hn e.symm)]
  rfl
/-- Integers at a place. -/
def NumsAt (w : World) (g : Nat) (zs : List Int) : Prop := ∀ j z, zs[j]? = some z → w.cell? ⟨g, j, none⟩ = some (.int .i64 z)
theorem msorted_any (g c : Nat) (zs : List Int) (hn : zs.length ≤ 100000) (h0 : zs ≠ []) (w : World) (hc : NumsAt w g zs) :
    Calls Tryz.prog 278 #[.slice (some ⟨g, 0, none⟩) zs.length c] w fun e w' => ∃ g' c', e = .returned (.slice (some ⟨g', 0, none⟩) zs.length c') ∧ NumsAt w' g' (sortI zs) ∧ Mod NoB w w' := by
  have hp : 0 < zs.length := List.length_pos_iff.2 h0
  have h1 := hide (cloneL_any g 0 zs.length c (zs.map (Value.int .i64)) (by simp) hn (by intro u hu; obtain ⟨z, _, rfl⟩ := List.mem_map.1 hu; rfl) w (by
    intro j u hj
    rw [List.getElem?_map] at hj
    cases hz : zs[j]? with
    | none => rw [hz] at hj; cases hj
    | some z => rw [hz] at hj; cases hj; simpa using hc j z hz))
  clear hc
  go_enter Tryz.func278, Tryz.ntmps278
  go_wp2_with fail
  refine h1.out.mono ?_
  rintro e w2 ⟨v, rfl, hown, hm⟩
  rcases hown.2 with ⟨_, h⟩ | ⟨g2, cap, cur, rfl, hb, hg, hcap, hcm, hcs, htk⟩
  · omega
  have hlt := lt_of_block hg
  have hH : Holds (Value.int .i64) w2 g2 0 zs.toArray := by
    intro j hj
    have hj : j < zs.length := by simpa using hj
    refine ⟨cell_of_block hg (0 + j) ?_, frozen_of_block hg _⟩
    have h2 : (cur.toList.take (zs.length * 1))[j]? = (zs.map (Value.int .i64))[j]? := by rw [htk]
    rw [List.getElem?_take_of_lt (by omega), Array.getElem?_toList, List.getElem?_map] at h2
    rw [Nat.zero_add, h2]
    simp [hj]
  have h2 := hide (Tryz.slices_Sort_int g2 0 cap zs w2 hH hlt (by omega))
  replace hm := hide hm
  replace hH := hide hH
  clear hown hg htk
  go_wp2_with fail
  refine h2.out.mono ?_
  rintro e w3 ⟨rfl, n, os, hw3⟩
  have hm3 : Mod NoB w w3 := by
    rw [hw3]
    have hm := hm.out
    exact hm.into (mod_sorted w2 n g2 0 _ os) (fun k hk => Or.inr (by subst hk; exact hb))
  have hi3 : NumsAt w3 g2 (sortI zs) := by
    rw [hw3]
    intro j z hj
    have hjl : j < zs.length := by
      rw [← sortI_len zs]
      exact (List.getElem?_eq_some_iff.1 hj).1
    rw [cell?_grow _ _ _ (by simpa using hlt)]
    have := (holds_putRow (Value.int .i64) (Sort.ahead w2 n) g2 0 zs.toArray (zs.mergeSort fun x y => decide (x ≤ y)).toArray (holds_ahead _ _ _ _ _ _ hH.out) (by simp) j (by simpa using hjl)).1
    rw [Nat.zero_add] at this
    rw [this]
    unfold sortI at hj
    simp [List.getElem?_eq_some_iff.1 hj |>.2, getElem!_def, hj]
  clear hw3
  replace hm3 := hide hm3
  replace hi3 := hide hi3
  go_wp2_with fail
  go_ret
  exact ⟨_, _, rfl, hi3.out, hm3.out⟩
theorem mof_any (g c : Nat) (zs : List Int) (hn : zs.length ≤ 100000) (h0 : zs ≠ []) (w : World) (hc : NumsAt w g zs) :
    Calls Tryz.prog 247 #[.slice (some ⟨g, 0, none⟩) zs.length c] w fun e w' => e = .returned (.tuple #[.int .i64 (medI zs), .int .i64 0]) ∧ Mod NoB w w' := by
  have hp : 0 < zs.length := List.length_pos_iff.2 h0
  have h1 := hide (msorted_any g c zs hn h0 w hc)
  clear hc
  have hz : ((zs.length : Int) == 0) = false := by simpa using h0
  have hd : Int.tdiv ((zs.length : Int) - 1) 2 = (((zs.length - 1) / 2 : Nat) : Int) := by
    rw [Int.tdiv_eq_ediv_of_nonneg (by omega)]
    omega
  go_enter Tryz.func247, Tryz.ntmps247
  go_wp2_with fail
  refine h1.out.mono ?_
  rintro e w2 ⟨g2, c2, rfl, hi, hm⟩
  have hk : (zs.length - 1) / 2 < (sortI zs).length := by rw [sortI_len]; omega
  have hcell := hi ((zs.length - 1) / 2) _ (List.getElem?_eq_getElem hk)
  have hmed : (sortI zs)[(zs.length - 1) / 2] = medI zs := by unfold medI; simp [List.getD, hk]
  rw [hmed] at hcell
  replace hm := hide hm
  replace hi := hide hi
  clear hmed
  go_wp2_with fail
  go_ret2
  exact ⟨rfl, hm.out⟩
end Go.Proofs.YtjlilmonpklghaaGreatDoor

namespace Go.Proofs.YtjlilmonpklghaaGreatDoor
set_option linter.unusedSimpArgs false
open Go.RowKit

abbrev VoteS.cells (v : VoteS) : List Value := [.int .i64 v.server, .int .i64 v.sample.offset, .int .i64 v.sample.delay, .int .i64 v.sample.at', .int .i64 v.sample.slewed, .int .i64 v.offset]
def vcells (l : List VoteS) : List Value := l.flatMap VoteS.cells
theorem vcells_len (l : List VoteS) : (vcells l).length = l.length * 6 := by
  induction l with
  | nil => rfl
  | cons x l ih => simp [vcells] at ih ⊢; omega
theorem vcells_cons (x : VoteS) (l : List VoteS) : vcells (x :: l) = x.cells ++ vcells l := rfl
theorem vcells_app (l m : List VoteS) : vcells (l ++ m) = vcells l ++ vcells m := by simp [vcells]
theorem vcells_one (xs : List VoteS) : ∀ u ∈ vcells xs, u.oneCell' = true := by
  intro u hu
  obtain ⟨y, _, hy⟩ := List.mem_flatMap.1 hu
  simp at hy
  rcases hy with rfl | rfl | rfl | rfl | rfl | rfl <;> rfl
/-- A slice value holds votes. -/
def VotesAt (w : World) (v : Value) (l : List VoteS) : Prop :=
  (v = .slice none 0 0 ∧ l = []) ∨ ∃ g c, v = .slice (some ⟨g, 0, none⟩) l.length c ∧ ∀ j u, (vcells l)[j]? = some u → w.cell? ⟨g, j, none⟩ = some u
theorem vote_cells {w : World} {g : Nat} {xs : List VoteS} (hc : ∀ j u, (vcells xs)[j]? = some u → w.cell? ⟨g, j, none⟩ = some u) {k : Nat} {x : VoteS} (hk : xs[k]? = some x) :
    ∀ j, j < 6 → ∀ u, x.cells[j]? = some u → w.cell? ⟨g, k * 6 + j, none⟩ = some u := by
  have key : ∀ (l : List VoteS) (k : Nat), l[k]? = some x → ∀ j, j < 6 → (vcells l)[k * 6 + j]? = x.cells[j]? := by
    intro l
    induction l with
    | nil => intro k h; simp at h
    | cons y l ih =>
      intro k h j hj
      cases k with
      | zero =>
        cases h
        rw [vcells_cons, List.getElem?_append_left (by simp; omega)]
        simp
      | succ k =>
        rw [vcells_cons, List.getElem?_append_right (by simp; omega)]
        rw [show (k + 1) * 6 + j - y.cells.length = k * 6 + j by simp; omega]
        exact ih k (by simpa using h) j hj
  intro j hj u hu
  exact hc _ _ (by rw [key xs k hk j hj]; exact hu)
theorem vote6 {w : World} {g : Nat} {xs : List VoteS} (hc : ∀ j u, (vcells xs)[j]? = some u → w.cell? ⟨g, j, none⟩ = some u) {k : Nat} {x : VoteS} (hk : xs[k]? = some x) :
    w.cell? ⟨g, k * 6, none⟩ = some (.int .i64 x.server) ∧ w.cell? ⟨g, k * 6 + 1, none⟩ = some (.int .i64 x.sample.offset) ∧ w.cell? ⟨g, k * 6 + 2, none⟩ = some (.int .i64 x.sample.delay) ∧
    w.cell? ⟨g, k * 6 + 3, none⟩ = some (.int .i64 x.sample.at') ∧ w.cell? ⟨g, k * 6 + 4, none⟩ = some (.int .i64 x.sample.slewed) ∧ w.cell? ⟨g, k * 6 + 5, none⟩ = some (.int .i64 x.offset) :=
  ⟨vote_cells hc hk 0 (by decide) _ rfl, vote_cells hc hk 1 (by decide) _ rfl, vote_cells hc hk 2 (by decide) _ rfl, vote_cells hc hk 3 (by decide) _ rfl, vote_cells hc hk 4 (by decide) _ rfl, vote_cells hc hk 5 (by decide) _ rfl⟩
theorem infoI64 : (Tryz.prog.info? 2).map (fun i => (i.zero, i.size, i.bytes)) = some (some (.int .i64 0), 1, 8) := by kernel_rfl
/-- The row of offsets, k of them written. -/
def offRow (l : List VoteS) (k : Nat) : Array Value := ((l.take k).map (fun v : VoteS => Value.int .i64 v.offset) ++ List.replicate (l.length - k) (Value.int .i64 0)).toArray
theorem offRow_set {l : List VoteS} {k : Nat} {x : VoteS} (hk : l[k]? = some x) : (offRow l k).setIfInBounds k (.int .i64 x.offset) = offRow l (k + 1) := by
  have hlt : k < l.length := (List.getElem?_eq_some_iff.1 hk).1
  unfold offRow
  rw [List.take_add_one, hk, List.setIfInBounds_toArray, List.set_append_right _ _ (by simp; omega)]
  rw [show k - (List.map (fun v : VoteS => Value.int IntKind.i64 v.offset) (List.take k l)).length = 0 by simp; omega, show l.length - k = (l.length - (k + 1)) + 1 by omega, List.replicate_succ]
  simp
theorem offRow_zero (l : List VoteS) : madeCells #[Value.int .i64 0] l.length = offRow l 0 := by
  unfold madeCells offRow
  apply Array.ext_getElem?
  intro k
  by_cases hk : k < l.length <;> simp [hk, Nat.mod_one]
theorem offRow_end (l : List VoteS) : offRow l l.length = ((l.map (·.offset)).map (Value.int .i64)).toArray := by
  unfold offRow
  simp
theorem offRow_size (l : List VoteS) (k : Nat) (hk : k ≤ l.length) : (offRow l k).size = l.length := by
  unfold offRow
  simp
  omega
set_option maxHeartbeats 4000000 in
theorem choose_any (q : Int) (v : Value) (l : List VoteS) (hl : l.length ≤ 1000) (w : World) (hv : VotesAt w v l) :
    Calls Tryz.prog 212 #[.int .i64 q, v] w fun e w' => e = .returned (.tuple #[.int .i64 (chooseS q l).1, .int .i64 (chooseS q l).2]) ∧ Mod NoB w w' := by
  obtain ⟨r, hr⟩ : ∃ r, chooseS q l = r := ⟨_, rfl⟩
  rw [hr]
  obtain ⟨p, c, hpv⟩ : ∃ p c, v = .slice p l.length c := by
    rcases hv with ⟨rfl, rfl⟩ | ⟨g, c, rfl, _⟩
    · exact ⟨none, 0, rfl⟩
    · exact ⟨_, _, rfl⟩
  unfold chooseS at hr
  by_cases hq : q < 1
  · rw [if_pos hq] at hr
    subst hr hpv
    clear hv
    go_enter Tryz.func212, Tryz.ntmps212
    go_wp2
    go_ret2
    exact ⟨rfl, Mod.refl _ _⟩
  rw [if_neg hq] at hr
  by_cases hlq : (l.length : Int) < q
  · rw [if_pos hlq] at hr
    subst hr hpv
    clear hv
    go_enter Tryz.func212, Tryz.ntmps212
    go_wp2
    go_ret2
    exact ⟨rfl, Mod.refl _ _⟩
  rw [if_neg hlq, if_neg (by omega)] at hr
  rcases hv with ⟨rfl, rfl⟩ | ⟨g, c2, rfl, hc⟩
  · simp at hlq; omega
  cases hpv
  replace hr := hide hr
  replace hc := hide hc
  have hmk := run_make_row' (P := Tryz.prog) 66 2 (.int .i64 0) 8 Tryz.underlying66 infoI64 rfl .i64 .i64 l.length (by omega) (by omega)
  go_enter Tryz.func212, Tryz.ntmps212
  go_wp2_with fail
  clear hmk
  rw [offRow_zero] at *
  have hB0 := heap_alloc_new w (.cells (offRow l 0) 2)
  have hm0 : Mod NoB w (w.alloc (.cells (offRow l 0) 2)) := (Mod.refl _ _).alloc _
  generalize w.alloc (.cells (offRow l 0) 2) = w2 at *
  generalize hB : w.heap.size = B at *
  replace hB0 := hide hB0
  replace hm0 := hide hm0
  have hl1 : (l.length : Int) ≤ 1000 := by omega
  go_loopw [22] (fun s22 wr => ∃ k : Nat, s22 = .int .i64 k ∧ k ≤ l.length ∧ wr.heap[B]? = some (.cells (offRow l k) 2 (0, 0)) ∧ Mod NoB w wr) (fun s22 wr => l.length - (match s22 with | .int _ i => i.toNat | _ => 0))
  case atStart => exact ⟨0, rfl, Nat.zero_le _, hB0.out, hm0.out⟩
  case round =>
    obtain ⟨k, rfl, hk, hBk, hmk⟩ := hrel
    by_cases hkl : k < l.length
    · obtain ⟨x, hx⟩ : ∃ x, l[k]? = some x := ⟨l[k], by simp [hkl]⟩
      obtain ⟨e0, e1, e2, e3, e4, e5⟩ := vote6 hc.out hx
      have e0 := hmk.cellAt id e0
      have e1 := hmk.cellAt id e1
      have e2 := hmk.cellAt id e2
      have e3 := hmk.cellAt id e3
      have e4 := hmk.cellAt id e4
      have e5 := hmk.cellAt id e5
      have hsz := offRow_size l k hk
      obtain ⟨y, hy⟩ : ∃ y, (offRow l k)[k]? = some y := ⟨(offRow l k)[k]'(by omega), by simp [hsz, hkl]⟩
      have b0 := cell_of_block hBk k hy
      have z0 := frozen_of_block hBk k
      have hlB := lt_of_block hBk
      have hfin : Hid (∀ o, ((wr.setCell ⟨B, k, none⟩ (.int .i64 x.offset)).alloc o).heap[B]? = some (.cells (offRow l (k + 1)) 2 (0, 0))) := hide (fun o => by
        rw [heap_alloc_old (by simpa [World.setCell] using hlB), heap_setCell_eq hBk, offRow_set hx])
      have hmf : Hid (∀ o, Mod NoB w ((wr.setCell ⟨B, k, none⟩ (.int .i64 x.offset)).alloc o)) := hide (fun o => (hmk.setCell (Or.inr (by rw [hB]; exact Nat.le_refl _)) _).alloc _)
      replace hx := hide hx
      replace hBk := hide hBk
      replace hmk := hide hmk
      replace hy := hide hy
      replace hsz := hide hsz
      have hki : (k : Int) < l.length := by omega
      have hwk : wrap64 ((k : Int) + 1) = ((k + 1 : Nat) : Int) := by rw [wrap64_eq, wrap_in ⟨by omega, by omega⟩]; omega
      clear hkl hk
      go_wp2_with fail
      go_roundw
      case rel => exact ⟨k + 1, rfl, by omega, hfin.out _, hmf.out _⟩
      case measure => simp; omega
    · have hkl2 : k = l.length := by omega
      subst hkl2
      have hki : ¬ ((l.length : Int) < l.length) := by omega
      rw [offRow_end] at hBk
      have hof := mof_any B l.length (l.map (·.offset)) (by simp; omega) (by intro h; simp at h; subst h; simp at hlq; omega) wr (by
        intro j z hj
        refine cell_of_block hBk j ?_
        rw [List.getElem?_toArray, List.getElem?_map, hj]
        rfl)
      rw [List.length_map] at hof
      replace hof := hide hof
      replace hBk := hide hBk
      replace hmk := hide hmk
      go_wp2_with fail
      refine hof.out.mono ?_
      rintro e w5 ⟨rfl, hm5⟩
      have hmm := hide (hmk.out.trans hm5)
      go_wp2_with fail
      go_ret2
      have hr := hr.out
      subst hr
      exact ⟨rfl, hmm.out⟩
end Go.Proofs.YtjlilmonpklghaaGreatDoor

