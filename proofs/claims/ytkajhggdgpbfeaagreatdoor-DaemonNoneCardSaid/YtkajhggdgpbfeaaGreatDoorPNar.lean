/- fresh.Store.Best (contract). slices.Sort, laid at this dump. median at int64 (contracts). -/
import Derived.Test.YtkajhggdgpbfeaaGreatDoorPNaq
import Derived.Test.YtkajhggdgpbfeaaGreatDoorPNai
import Derived.RegionIn
import Derived.Test.YtkajhggdgpbfeaaGreatDoorPNab
import Derived.Shelf.LaysM
import Derived.Ground.SlgmProg
import Derived.Shelf.SortM.Plain
import Derived.Shelf.SortM.SortNone
import Derived.Sort.Grow
namespace Go.Proofs.YtkajhggdgpbfeaaGreatDoor
set_option linter.unusedSimpArgs false
open Go.RowKit Go.Shelf
attribute [local go_sem] Oper.semAt_some

theorem ffresh_any (b : Nat) (h life : Int) (w : World) :
    Calls Tryz.prog 225 #[at0 b, .int .i64 h, .int .i64 life] w fun e w' =>
      e = .returned (.func (.func 240) #[] #[at0 w.heap.size, at0 (w.heap.size + 1), at0 (w.heap.size + 1 + 1)]) ∧
      w' = ((w.alloc (.cells #[at0 b] 121)).alloc (.cells #[.int .i64 h] 2)).alloc (.cells #[.int .i64 life] 2) := by
  go_enter Tryz.func225, Tryz.ntmps225
  go_wp2
  go_ret
  exact ⟨rfl, rfl⟩
/-- What Best answers. -/
def BestE (o : Option SampleS) (slewed : Int) (e : Ending) : Prop := match o with
  | none => e = .returned (.tuple #[.agg #[.int .i64 0, .int .i64 0, .int .i64 0, .int .i64 0], .int .i64 0, .bool false])
  | some x => e = .returned (.tuple #[x.val, .int .i64 (nowS x slewed), .bool true])
def zeroS : SampleS := ⟨0, 0, 0, 0⟩
/-- The best one's cells, and whether there is one. -/
structure BestJ (D : Nat) (o : Option SampleS) (W : World) : Prop where
  c : W.heap[D]? = some (.cells (o.getD zeroS).cells.toArray 79 (0, 0))
  k : W.heap[D + 1]? = some (.cells #[.bool o.isSome] 4 (0, 0))
theorem best_mem {xs : List SampleS} {h life : Int} : ∀ x, bestS xs h life = some x → x ∈ xs := by
  have key : ∀ (l : List SampleS) (o : Option SampleS) x, l.foldl pickS o = some x → x ∈ l ∨ o = some x := by
    intro l
    induction l with
    | nil => intro o x h; exact Or.inr h
    | cons y l ih =>
      intro o x h
      rcases ih _ _ h with h | h
      · exact Or.inl (by simp [h])
      · cases o with
        | none => cases h; exact Or.inl (by simp)
        | some b =>
          simp only [pickS] at h
          split at h
          · exact Or.inr h
          · cases h; exact Or.inl (by simp)
  intro x hx
  rcases key _ _ _ hx with h | h
  · exact (List.mem_filter.1 h).1
  · cases h
theorem BestJ.take {D : Nat} {o : Option SampleS} {W : World} (hj : BestJ D o W) (x : SampleS) :
    BestJ D (some x) (((((W.setCell ⟨D, 0, none⟩ (.int .i64 x.offset)).setCell ⟨D, 1, none⟩ (.int .i64 x.delay)).setCell ⟨D, 2, none⟩ (.int .i64 x.at')).setCell ⟨D, 3, none⟩ (.int .i64 x.slewed)).setCell ⟨D + 1, 0, none⟩ (.bool true)) ∧
    Mod (fun k => k = D ∨ k = D + 1) W (((((W.setCell ⟨D, 0, none⟩ (.int .i64 x.offset)).setCell ⟨D, 1, none⟩ (.int .i64 x.delay)).setCell ⟨D, 2, none⟩ (.int .i64 x.at')).setCell ⟨D, 3, none⟩ (.int .i64 x.slewed)).setCell ⟨D + 1, 0, none⟩ (.bool true)) := by
  refine ⟨⟨?_, ?_⟩, ((((((Mod.refl _ _).setCell (Or.inl (Or.inl rfl)) _).setCell (Or.inl (Or.inl rfl)) _).setCell (Or.inl (Or.inl rfl)) _).setCell (Or.inl (Or.inl rfl)) _).setCell (Or.inl (Or.inr rfl)) _)⟩
  · rw [heap_setCell_ne (by simp), heap_setCell_eq (heap_setCell_eq (heap_setCell_eq (heap_setCell_eq hj.c _) _) _)]
    simp
  · rw [heap_setCell_eq (c := #[.bool o.isSome]) (t := 4) (fr := (0, 0))]
    · simp
    · rw [heap_setCell_ne (by simp), heap_setCell_ne (by simp), heap_setCell_ne (by simp), heap_setCell_ne (by simp)]
      exact hj.k
theorem BestJ.put {D : Nat} {o : Option SampleS} {W : World} (hj : BestJ D o W) (x y z u : Value) (k : Bool) {Wz : World}
    (hW : ((((((W.setCell ⟨D, 0, none⟩ x).setCell ⟨D, 1, none⟩ y).setCell ⟨D, 2, none⟩ z).setCell ⟨D, 3, none⟩ u).setCell ⟨D + 1, 0, none⟩ (.bool k)).drew) = Wz) :
    Wz.heap[D]? = some (.cells #[x, y, z, u] 79 (0, 0)) ∧ Wz.heap[D + 1]? = some (.cells #[.bool k] 4 (0, 0)) ∧ Mod (fun k => k = D ∨ k = D + 1) W Wz := by
  obtain ⟨Wv, hv⟩ : ∃ Wv, (((((W.setCell ⟨D, 0, none⟩ x).setCell ⟨D, 1, none⟩ y).setCell ⟨D, 2, none⟩ z).setCell ⟨D, 3, none⟩ u).setCell ⟨D + 1, 0, none⟩ (.bool k)) = Wv := ⟨_, rfl⟩
  rw [hv] at hW
  subst hW
  have g0 : Wv.heap[D]? = some (.cells #[x, y, z, u] 79 (0, 0)) := by
    rw [← hv, heap_setCell_ne (by simp), heap_setCell_eq (heap_setCell_eq (heap_setCell_eq (heap_setCell_eq hj.c _) _) _)]
    simp
  have g1 : Wv.heap[D + 1]? = some (.cells #[.bool k] 4 (0, 0)) := by
    rw [← hv, heap_setCell_eq (c := #[.bool o.isSome]) (t := 4) (fr := (0, 0))]
    · simp
    · rw [heap_setCell_ne (by simp), heap_setCell_ne (by simp), heap_setCell_ne (by simp), heap_setCell_ne (by simp)]
      exact hj.k
  have hm : Mod (fun k => k = D ∨ k = D + 1) W Wv := by
    rw [← hv]
    exact (((((Mod.refl _ _).setCell (Or.inl (Or.inl rfl)) _).setCell (Or.inl (Or.inl rfl)) _).setCell (Or.inl (Or.inl rfl)) _).setCell (Or.inl (Or.inl rfl)) _).setCell (Or.inl (Or.inr rfl)) _
  exact ⟨g0, g1, hm.drew⟩
theorem resBest (tmps : Array Value) (W : World) (D : Nat) (x y z u v : Value) (k : Bool) (ha : tmps[8]?.getD undef = .pointer (some ⟨D, 0, none⟩)) (hb : tmps[10]?.getD undef = .pointer (some ⟨D + 1, 0, none⟩)) (hc : tmps[9]?.getD undef = v)
    (h0 : W.heap[D]? = some (.cells #[x, y, z, u] 79 (0, 0))) (h1 : W.heap[D + 1]? = some (.cells #[.bool k] 4 (0, 0))) :
    (results Tryz.f197 tmps).run Tryz.prog W = .ok (.tuple #[.agg #[x, y, z, u], v, .bool k]) W := by
  have k0 := cell_of_block h0 0 rfl
  have k1 := cell_of_block h0 1 rfl
  have k2 := cell_of_block h0 2 rfl
  have k3 := cell_of_block h0 3 rfl
  have k4 := cell_of_block h1 0 rfl
  simp [results, Tryz.results197, go_sem, ha, hb, hc, k0, k1, k2, k3, k4]
set_option maxHeartbeats 8000000 in
theorem best_any (b rb : Nat) (sl : Value) (xs : List SampleS) (h life slewed : Int) (w : World) (hst : StoreO w b rb sl xs) (hl : xs.length ≤ 8) (hok : ∀ x ∈ xs, x.Ok) (hh : I64 h) (hz : I64 slewed) :
    Calls Tryz.prog 197 #[at0 b, .int .i64 h, .int .i64 life, .int .i64 slewed] w fun e w' =>
      BestE (bestS xs h life) slewed e ∧ Mod NoB w w' := by
  have hlb := lt_of_block hst.blk
  replace hst := hide hst
  refine (callsIn_wide (n := 9)).1 ?_
  refine callsIn_of_wp_marks Tryz.func197 rfl trivial ?_ rfl
  simp only [Tryz.ntmps197, List.size_toArray, List.length_cons, List.length_nil, Nat.reduceAdd, Nat.reduceSub, Array.replicate_succ, Array.replicate_zero, List.push_toArray, List.append_toArray, List.nil_append, List.cons_append]
  gi_wp2_with fail
  refine ⟨trivial, (callsIn_wide.2 (ffresh_any b h life _)).mono ?_⟩
  rintro e w' ⟨rfl, rfl⟩
  gi_wp2_with fail
  have hm5 : Mod NoB w (((((w.alloc (.cells #[.int .i64 0, .int .i64 0, .int .i64 0, .int .i64 0] 79)).alloc (.cells #[.bool false] 4)).alloc (.cells #[at0 b] 121)).alloc (.cells #[.int .i64 h] 2)).alloc (.cells #[.int .i64 life] 2)) :=
    (((((Mod.refl _ _).alloc _).alloc _).alloc _).alloc _).alloc _
  have g0 : (((((w.alloc (.cells #[.int .i64 0, .int .i64 0, .int .i64 0, .int .i64 0] 79)).alloc (.cells #[.bool false] 4)).alloc (.cells #[at0 b] 121)).alloc (.cells #[.int .i64 h] 2)).alloc (.cells #[.int .i64 life] 2)).heap[w.heap.size]? = some (.cells #[.int .i64 0, .int .i64 0, .int .i64 0, .int .i64 0] 79 (0, 0)) := by
    simp only [alloc_get, World.size_alloc]
    repeat (first | rw [if_pos (by omega)] | rw [if_neg (by omega)])
    try exact if_pos trivial
  have g1 : (((((w.alloc (.cells #[.int .i64 0, .int .i64 0, .int .i64 0, .int .i64 0] 79)).alloc (.cells #[.bool false] 4)).alloc (.cells #[at0 b] 121)).alloc (.cells #[.int .i64 h] 2)).alloc (.cells #[.int .i64 life] 2)).heap[w.heap.size + 1]? = some (.cells #[.bool false] 4 (0, 0)) := by
    simp only [alloc_get, World.size_alloc]
    repeat (first | rw [if_pos (by omega)] | rw [if_neg (by omega)])
    try exact if_pos trivial
  have g2 : (((((w.alloc (.cells #[.int .i64 0, .int .i64 0, .int .i64 0, .int .i64 0] 79)).alloc (.cells #[.bool false] 4)).alloc (.cells #[at0 b] 121)).alloc (.cells #[.int .i64 h] 2)).alloc (.cells #[.int .i64 life] 2)).heap[w.heap.size + 1 + 1]? = some (.cells #[at0 b] 121 (0, 0)) := by
    simp only [alloc_get, World.size_alloc]
    repeat (first | rw [if_pos (by omega)] | rw [if_neg (by omega)])
    try exact if_pos trivial
  have g3 : (((((w.alloc (.cells #[.int .i64 0, .int .i64 0, .int .i64 0, .int .i64 0] 79)).alloc (.cells #[.bool false] 4)).alloc (.cells #[at0 b] 121)).alloc (.cells #[.int .i64 h] 2)).alloc (.cells #[.int .i64 life] 2)).heap[w.heap.size + 1 + 1 + 1]? = some (.cells #[.int .i64 h] 2 (0, 0)) := by
    simp only [alloc_get, World.size_alloc]
    repeat (first | rw [if_pos (by omega)] | rw [if_neg (by omega)])
    try exact if_pos trivial
  have g4 : (((((w.alloc (.cells #[.int .i64 0, .int .i64 0, .int .i64 0, .int .i64 0] 79)).alloc (.cells #[.bool false] 4)).alloc (.cells #[at0 b] 121)).alloc (.cells #[.int .i64 h] 2)).alloc (.cells #[.int .i64 life] 2)).heap[w.heap.size + 1 + 1 + 1 + 1]? = some (.cells #[.int .i64 life] 2 (0, 0)) := by
    simp only [alloc_get, World.size_alloc]
    repeat (first | rw [if_pos (by omega)] | rw [if_neg (by omega)])
    try exact if_pos trivial
  have hsz : (((((w.alloc (.cells #[.int .i64 0, .int .i64 0, .int .i64 0, .int .i64 0] 79)).alloc (.cells #[.bool false] 4)).alloc (.cells #[at0 b] 121)).alloc (.cells #[.int .i64 h] 2)).alloc (.cells #[.int .i64 life] 2)).heap.size = w.heap.size + 5 := by simp
  generalize (((((w.alloc (.cells #[.int .i64 0, .int .i64 0, .int .i64 0, .int .i64 0] 79)).alloc (.cells #[.bool false] 4)).alloc (.cells #[at0 b] 121)).alloc (.cells #[.int .i64 h] 2)).alloc (.cells #[.int .i64 life] 2)) = w5 at *
  generalize hD : w.heap.size = D at *
  have hst5 := hst.out.mod hm5 id id (fun _ _ => id)
  refine rangeFresh 9 b rb sl xs h life (D + 1 + 1) (D + 1 + 1 + 1) (D + 1 + 1 + 1 + 1) rfl rfl (fun k => k = D ∨ k = D + 1) (BestJ D)
    (fun o W W' hj hm => ⟨hm.heap hj.c id, hm.heap hj.k id⟩)
    (by rw [hsz]; exact fun o W k o' a1 a2 hj => ⟨(World.putObj_heap_other (by omega)).trans hj.c, (World.putObj_heap_other (by omega)).trans hj.k⟩)
    hst5 hl hok hh (cell_of_block g2 0 rfl) (cell_of_block g3 0 rfl) (cell_of_block g4 0 rfl) (by omega) (by omega) (by rintro k (h | h) <;> omega) ⟨g0, g1⟩
    (fun x g => { tmps := #[at0 b, .int .i64 h, .int .i64 life, .int .i64 slewed, undef, undef, undef, undef, at0 D, .int .i64 0, at0 (D + 1), at0 g, at0 b, .int .i64 h, .int .i64 life,
      .func (.func 240) #[] #[at0 (D + 1 + 1), at0 (D + 1 + 1 + 1), at0 (D + 1 + 1 + 1 + 1)], x.val, undef, undef, undef, undef, undef, undef, undef, undef, undef, undef, undef, undef, undef, undef, undef, undef], defers := [] }) ?assign ?body ?done
  case assign =>
    intro l2 x W K hK
    gi_wp2
    exact hK
  case body =>
    rintro l2 o x W g hg hx hj
    rw [hsz] at hg
    have a0 := cell_of_block hx 0 rfl
    have a1 := cell_of_block hx 1 rfl
    have a2 := cell_of_block hx 2 rfl
    have a3 := cell_of_block hx 3 rfl
    have hlg := lt_of_block hx
    have hlD := lt_of_block hj.c
    have hlk := lt_of_block hj.k
    have z0 := frozen_of_block hj.c 0
    have z1 := frozen_of_block hj.c 1
    have z2 := frozen_of_block hj.c 2
    have z3 := frozen_of_block hj.c 3
    have zk := frozen_of_block hj.k 0
    have hbt : ∀ (y : SampleS) w', Calls Tryz.prog 226 #[y.val, x.val] w' fun e w'' => e = .returned (.bool (betterS y x)) ∧ Mod NoB w' w'' := fun y w' => better_any y.offset y.delay y.at' y.slewed x.offset x.delay x.at' x.slewed w'
    replace hbt := hide hbt
    cases o with
    | none =>
      have k0 := cell_of_block hj.k 0 (v := .bool false) rfl
      have b0 := cell_of_block hj.c 0 (v := .int .i64 0) rfl
      have b1 := cell_of_block hj.c 1 (v := .int .i64 0) rfl
      have b2 := cell_of_block hj.c 2 (v := .int .i64 0) rfl
      have b3 := cell_of_block hj.c 3 (v := .int .i64 0) rfl
      replace hj := hide hj
      replace hx := hide hx
      gi_wp2_with fail
      refine ⟨trivial, ?_⟩
      have ht := hide (hj.out.take x)
      gi_wp2
      exact ⟨ht.out.1, ht.out.2⟩
    | some y =>
      have k0 := cell_of_block hj.k 0 (v := .bool true) rfl
      have b0 := cell_of_block hj.c 0 (v := .int .i64 y.offset) rfl
      have b1 := cell_of_block hj.c 1 (v := .int .i64 y.delay) rfl
      have b2 := cell_of_block hj.c 2 (v := .int .i64 y.at') rfl
      have b3 := cell_of_block hj.c 3 (v := .int .i64 y.slewed) rfl
      replace hj := hide hj
      replace hx := hide hx
      gi_wp2_with fail
      refine ⟨trivial, ((callsIn_wide.2 (hbt.out y _)).inRound l2).mono ?_⟩
      rintro e W2 ⟨rfl, hm2⟩
      have hm2 : Mod NoB W W2 := hm2
      have hx2 := hm2.heap hx.out id
      have hj2 : BestJ D (some y) W2 := ⟨hm2.heap hj.out.c id, hm2.heap hj.out.k id⟩
      clear a0 a1 a2 a3 b0 b1 b2 b3 k0 z0 z1 z2 z3 zk hlg hlD hlk
      have a0 := cell_of_block hx2 0 rfl
      have a1 := cell_of_block hx2 1 rfl
      have a2 := cell_of_block hx2 2 rfl
      have a3 := cell_of_block hx2 3 rfl
      have z0 := frozen_of_block hj2.c 0
      have z1 := frozen_of_block hj2.c 1
      have z2 := frozen_of_block hj2.c 2
      have z3 := frozen_of_block hj2.c 3
      have zk := frozen_of_block hj2.k 0
      have k0 := cell_of_block hj2.k 0 (v := .bool true) rfl
      have b0 := cell_of_block hj2.c 0 (v := .int .i64 y.offset) rfl
      have b1 := cell_of_block hj2.c 1 (v := .int .i64 y.delay) rfl
      have b2 := cell_of_block hj2.c 2 (v := .int .i64 y.at') rfl
      have b3 := cell_of_block hj2.c 3 (v := .int .i64 y.slewed) rfl
      have hpk : Hid (pickS (some y) x = if betterS y x then some y else some x) := hide rfl
      have ht := hide (hj2.take x)
      replace hj2 := hide hj2
      replace hm2 := hide hm2
      clear hx2
      cases hb : betterS y x with
      | true =>
        have hpk2 : Hid (pickS (some y) x = some y) := hide (by rw [hpk.out, hb]; rfl)
        replace hb := hide hb
        gi_wp2
        rw [hpk2.out]
        have hm2 := hm2.out
        exact ⟨hj2.out, hm2.mono (fun _ _ f => f.elim)⟩
      | false =>
        have hpk2 : Hid (pickS (some y) x = some x) := hide (by rw [hpk.out, hb]; rfl)
        replace hb := hide hb
        gi_wp2
        rw [hpk2.out]
        have hm2 := hm2.out
        exact ⟨ht.out.1, (hm2.mono (fun _ _ f => f.elim)).trans ht.out.2⟩
  case done =>
    rintro W hj hm hD
    have hmx : Tryz.prog.follows .mixedOrders = true := by kernel_rfl
    rw [hsz] at hD ⊢
    cases ho : bestS xs h life with
    | none =>
      rw [ho] at hj
      have k0 := cell_of_block hj.k 0 (v := .bool false) rfl
      have zk := frozen_of_block hj.k 0
      have b0 := cell_of_block hj.c 0 (v := .int .i64 0) rfl
      have b1 := cell_of_block hj.c 1 (v := .int .i64 0) rfl
      have b2 := cell_of_block hj.c 2 (v := .int .i64 0) rfl
      have b3 := cell_of_block hj.c 3 (v := .int .i64 0) rfl
      have z0 := frozen_of_block hj.c 0
      have z1 := frozen_of_block hj.c 1
      have z2 := frozen_of_block hj.c 2
      have z3 := frozen_of_block hj.c 3
      replace hj := hide hj
      replace hm := hide hm
      gi_wp2_with fail
      gi_region
      all_goals gi_wp2
      all_goals
        obtain ⟨Wz, hWz⟩ : ∃ Wz, ((((((W.setCell ⟨D, 0, none⟩ (.int .i64 0)).setCell ⟨D, 1, none⟩ (.int .i64 0)).setCell ⟨D, 2, none⟩ (.int .i64 0)).setCell ⟨D, 3, none⟩ (.int .i64 0)).setCell ⟨D + 1, 0, none⟩ (.bool false)).drew) = Wz := ⟨_, rfl⟩
        obtain ⟨y0, y1, hmz⟩ := hj.out.put _ _ _ _ _ hWz
        rw [hWz]
        have hDz : Wz.heap[D + 5]? = some (.deferred (some [])) := hmz.heap hD (by omega)
        refine ⟨by simp, .inl ⟨_, _, rfl, run_takeDeferred hDz, ?_⟩⟩
        have hmq : Mod (· = D + 5) Wz (Wz.putObj (D + 5) (.deferred none)) := Mod.putObj (S := (· = D + 5)) (Mod.refl _ _) (Or.inl rfl) _
        refine ⟨_, resBest _ _ D _ _ _ _ _ _ rfl rfl rfl (hmq.heap y0 (by omega)) (hmq.heap y1 (by omega)), ?_⟩
        have hm1 := hm.out
        refine ⟨by rw [ho]; rfl, ?_⟩
        exact ((hm5.into hm1 (fun k hk => Or.inr (by omega))).into hmz (fun k hk => Or.inr (by omega))).into hmq (fun k hk => Or.inr (by omega))
    | some y =>
      rw [ho] at hj
      have hyo := hok _ (best_mem y ho)
      have hnw : ∀ w', Calls Tryz.prog 227 #[y.val, .int .i64 slewed] w' fun e w'' => e = .returned (.int .i64 (nowS y slewed)) ∧ Mod NoB w' w'' := fun w' => snow_any y.offset y.delay y.at' y.slewed slewed hyo.o hyo.s hz w'
      replace hnw := hide hnw
      have k0 := cell_of_block hj.k 0 (v := .bool true) rfl
      have b0 := cell_of_block hj.c 0 (v := .int .i64 y.offset) rfl
      have b1 := cell_of_block hj.c 1 (v := .int .i64 y.delay) rfl
      have b2 := cell_of_block hj.c 2 (v := .int .i64 y.at') rfl
      have b3 := cell_of_block hj.c 3 (v := .int .i64 y.slewed) rfl
      replace hj := hide hj
      replace hm := hide hm
      gi_wp2_with fail
      refine ⟨trivial, (callsIn_wide.2 (hnw.out _)).mono ?_⟩
      rintro e W2 ⟨rfl, hm2⟩
      have hm2 : Mod NoB W W2 := hm2
      have hj2 : BestJ D (some y) W2 := ⟨hm2.heap hj.out.c id, hm2.heap hj.out.k id⟩
      have hD2 := hm2.heap hD id
      clear k0 b0 b1 b2 b3
      have k0 := cell_of_block hj2.k 0 (v := .bool true) rfl
      have zk := frozen_of_block hj2.k 0
      have b0 := cell_of_block hj2.c 0 (v := .int .i64 y.offset) rfl
      have b1 := cell_of_block hj2.c 1 (v := .int .i64 y.delay) rfl
      have b2 := cell_of_block hj2.c 2 (v := .int .i64 y.at') rfl
      have b3 := cell_of_block hj2.c 3 (v := .int .i64 y.slewed) rfl
      have z0 := frozen_of_block hj2.c 0
      have z1 := frozen_of_block hj2.c 1
      have z2 := frozen_of_block hj2.c 2
      have z3 := frozen_of_block hj2.c 3
      replace hj2 := hide hj2
      replace hm2 := hide hm2
      gi_wp2_with fail
      gi_region
      all_goals gi_wp2
      all_goals
        obtain ⟨Wz, hWz⟩ : ∃ Wz, ((((((W2.setCell ⟨D, 0, none⟩ (.int .i64 y.offset)).setCell ⟨D, 1, none⟩ (.int .i64 y.delay)).setCell ⟨D, 2, none⟩ (.int .i64 y.at')).setCell ⟨D, 3, none⟩ (.int .i64 y.slewed)).setCell ⟨D + 1, 0, none⟩ (.bool true)).drew) = Wz := ⟨_, rfl⟩
        obtain ⟨y0, y1, hmz⟩ := hj2.out.put _ _ _ _ _ hWz
        rw [hWz]
        have hDz : Wz.heap[D + 5]? = some (.deferred (some [])) := hmz.heap hD2 (by omega)
        refine ⟨by simp, .inl ⟨_, _, rfl, run_takeDeferred hDz, ?_⟩⟩
        have hmq : Mod (· = D + 5) Wz (Wz.putObj (D + 5) (.deferred none)) := Mod.putObj (S := (· = D + 5)) (Mod.refl _ _) (Or.inl rfl) _
        refine ⟨_, resBest _ _ D _ _ _ _ _ _ rfl rfl rfl (hmq.heap y0 (by omega)) (hmq.heap y1 (by omega)), ?_⟩
        have hm1 := hm.out
        have hm2 := hm2.out
        refine ⟨by rw [ho]; rfl, ?_⟩
        exact (((hm5.into hm1 (fun k hk => Or.inr (by omega))).into hm2 (fun k hk => hk.elim)).into hmz (fun k hk => Or.inr (by omega))).into hmq (fun k hk => Or.inr (by omega))
end Go.Proofs.YtkajhggdgpbfeaaGreatDoor

namespace Go.Proofs
open Go.Shelf
def Tryz.laysSlM5_f246_ren : Go.Shelf.Ren := ⟨fun | 5 => 246 | 8 => 256 | 7 => 255 | 19 => 267 | 20 => 133 | 10 => 258 | 11 => 259 | 12 => 260 | 13 => 261 | 14 => 262 | 15 => 263 | 16 => 264 | 17 => 265 | 18 => 266 | 30 => 268 | 31 => 269 | 32 => 270 | 33 => 271 | 34 => 272 | 35 => 273 | 40 => 274 | n => n, fun | 23 => 66 | 25 => 2 | 3 => 3 | 32 => 55 | 22 => 66 | 0 => 0 | 44 => 49 | 46 => 30 | 4 => 4 | 36 => 390 | 35 => 389 | 41 => 395 | 5 => 5 | 9 => 9 | 53 => 397 | 57 => 243 | 63 => 402 | 64 => 277 | n => n, fun | n => n⟩
theorem Tryz.laysSlM5_f246 : Go.Proofs.SlLaysM.n5 Tryz.prog Tryz.laysSlM5_f246_ren := {
  mixed := by kernel_rfl
  f5 := ⟨Tryz.f246.name, by decide, Tryz.func246.trans (congrArg some (by kernel_rfl))⟩
  f7 := ⟨Tryz.f255.name, by decide, Tryz.func255.trans (congrArg some (by kernel_rfl))⟩
  f8 := Tryz.func256.trans (congrArg some (by kernel_rfl))
  f10 := ⟨Tryz.f258.name, by decide, Tryz.func258.trans (congrArg some (by kernel_rfl))⟩
  f11 := ⟨Tryz.f259.name, by decide, Tryz.func259.trans (congrArg some (by kernel_rfl))⟩
  f12 := ⟨Tryz.f260.name, by decide, Tryz.func260.trans (congrArg some (by kernel_rfl))⟩
  f13 := ⟨Tryz.f261.name, by decide, Tryz.func261.trans (congrArg some (by kernel_rfl))⟩
  f14 := ⟨Tryz.f262.name, by decide, Tryz.func262.trans (congrArg some (by kernel_rfl))⟩
  f15 := ⟨Tryz.f263.name, by decide, Tryz.func263.trans (congrArg some (by kernel_rfl))⟩
  f16 := ⟨Tryz.f264.name, by decide, Tryz.func264.trans (congrArg some (by kernel_rfl))⟩
  f17 := ⟨Tryz.f265.name, by decide, Tryz.func265.trans (congrArg some (by kernel_rfl))⟩
  f18 := ⟨Tryz.f266.name, by decide, Tryz.func266.trans (congrArg some (by kernel_rfl))⟩
  f19 := Tryz.func267.trans (congrArg some (by kernel_rfl))
  f20 := Tryz.func133.trans (congrArg some (by kernel_rfl))
  f30 := ⟨Tryz.f268.name, by decide, Tryz.func268.trans (congrArg some (by kernel_rfl))⟩
  f31 := Tryz.func269.trans (congrArg some (by kernel_rfl))
  f32 := Tryz.func270.trans (congrArg some (by kernel_rfl))
  f33 := ⟨Tryz.f271.name, by decide, Tryz.func271.trans (congrArg some (by kernel_rfl))⟩
  f34 := ⟨Tryz.f272.name, by decide, Tryz.func272.trans (congrArg some (by kernel_rfl))⟩
  f35 := ⟨Tryz.f273.name, by decide, Tryz.func273.trans (congrArg some (by kernel_rfl))⟩
  f40 := ⟨Tryz.f274.name, by decide, Tryz.func274.trans (congrArg some (by kernel_rfl))⟩
  t0 := Tryz.underlying0
  a0 := Tryz.isAgg0
  z0 := Tryz.sizeOf0
  v0 := Tryz.zeroValue0
  t3 := Tryz.underlying3
  a3 := Tryz.isAgg3
  z3 := Tryz.sizeOf3
  v3 := Tryz.zeroValue3
  t4 := Tryz.underlying4
  a4 := Tryz.isAgg4
  z4 := Tryz.sizeOf4
  v4 := Tryz.zeroValue4
  t5 := Tryz.underlying5
  a5 := Tryz.isAgg5
  z5 := Tryz.sizeOf5
  v5 := Tryz.zeroValue5
  t9 := Tryz.underlying9
  a9 := Tryz.isAgg9
  z9 := Tryz.sizeOf9
  v9 := Tryz.zeroValue9
  t22 := Tryz.underlying66
  a22 := Tryz.isAgg66
  z22 := Tryz.sizeOf66
  v22 := Tryz.zeroValue66
  t23 := Tryz.underlying66
  a23 := Tryz.isAgg66
  z23 := Tryz.sizeOf66
  v23 := Tryz.zeroValue66
  t25 := Tryz.underlying2
  a25 := Tryz.isAgg2
  z25 := Tryz.sizeOf2
  v25 := Tryz.zeroValue2
  t32 := Tryz.underlying55
  a32 := Tryz.isAgg55
  z32 := Tryz.sizeOf55
  v32 := Tryz.zeroValue55
  t35 := Tryz.underlying389
  a35 := Tryz.isAgg389
  z35 := Tryz.sizeOf389
  v35 := Tryz.zeroValue389
  t36 := Tryz.underlying390
  a36 := Tryz.isAgg390
  z36 := Tryz.sizeOf390
  v36 := Tryz.zeroValue390
  t41 := Tryz.underlying395
  a41 := Tryz.isAgg395
  z41 := Tryz.sizeOf395
  v41 := Tryz.zeroValue395
  t44 := Tryz.underlying49
  a44 := Tryz.isAgg49
  z44 := Tryz.sizeOf49
  v44 := Tryz.zeroValue49
  t46 := Tryz.underlying30
  a46 := Tryz.isAgg30
  z46 := Tryz.sizeOf30
  v46 := Tryz.zeroValue30
  t53 := Tryz.underlying397
  a53 := Tryz.isAgg397
  z53 := Tryz.sizeOf397
  v53 := Tryz.zeroValue397
  t57 := Tryz.underlying243
  a57 := Tryz.isAgg243
  z57 := Tryz.sizeOf243
  v57 := Tryz.zeroValue243
  t63 := Tryz.underlying402
  a63 := Tryz.isAgg402
  z63 := Tryz.sizeOf402
  v63 := Tryz.zeroValue402
  t64 := Tryz.underlying277
  a64 := Tryz.isAgg277
  z64 := Tryz.sizeOf277
  v64 := Tryz.zeroValue277 }
open Go.Sort Go.RowKit in
theorem Tryz.slices_Sort_int (blk off cap : Nat) (zs : List Int) (w : World) (hH : Holds (Value.int .i64) w blk off zs.toArray) (hblk : blk < w.heap.size) (hsz : zs.length < 4611686018427387904) :
    Calls Tryz.prog 246 #[.slice (some ⟨blk, off, none⟩) zs.length cap] w fun e w' =>
      e = .returned (.tuple #[]) ∧ ∃ n os, w' = grow (putRow (Value.int .i64) (Sort.ahead w n) blk off (zs.mergeSort fun x y => decide (x ≤ y)).toArray) os := AnyM.slices_Sort_int Tryz.laysSlM5_f246 blk off cap zs w hH hblk hsz
end Go.Proofs

namespace Go.Proofs.YtkajhggdgpbfeaaGreatDoor
set_option linter.unusedSimpArgs false
open Go.RowKit Go.Sort

theorem sortI_len (l : List Int) : (sortI l).length = l.length := by simp [sortI]
theorem mod_sorted (w : World) (n blk off : Nat) (d : Array Int) (os : Array Obj) : Mod (· = blk) w (grow (putRow (Value.int .i64) (Sort.ahead w n) blk off d) os) := by
  refine ⟨rfl, rfl, rfl, by simp, fun k hk hn => ?_⟩
  rw [heap_grow_old _ _ (by simpa using hk)]
  show ((Sort.ahead w n).heap.modify blk _)[k]? = _
  rw [Array.getElem?_modify, if_neg (fun e => hn e.symm)]
  rfl
/-- Integers at a place. -/
def NumsAt (w : World) (g : Nat) (zs : List Int) : Prop := ∀ j z, zs[j]? = some z → w.cell? ⟨g, j, none⟩ = some (.int .i64 z)
theorem msorted_any (g c : Nat) (zs : List Int) (hn : zs.length ≤ 100000) (h0 : zs ≠ []) (w : World) (hc : NumsAt w g zs) :
    Calls Tryz.prog 228 #[.slice (some ⟨g, 0, none⟩) zs.length c] w fun e w' => ∃ g' c', e = .returned (.slice (some ⟨g', 0, none⟩) zs.length c') ∧ NumsAt w' g' (sortI zs) ∧ Mod NoB w w' := by
  have hp : 0 < zs.length := List.length_pos_iff.2 h0
  have h1 := hide (cloneL_any g 0 zs.length c (zs.map (Value.int .i64)) (by simp) hn (by intro u hu; obtain ⟨z, _, rfl⟩ := List.mem_map.1 hu; rfl) w (by
    intro j u hj
    rw [List.getElem?_map] at hj
    cases hz : zs[j]? with
    | none => rw [hz] at hj; cases hj
    | some z => rw [hz] at hj; cases hj; simpa using hc j z hz))
  clear hc
  go_enter Tryz.func228, Tryz.ntmps228
  go_wp2_with fail
  refine h1.out.mono ?_
  rintro e w2 ⟨v, rfl, hown, hm⟩
  rcases hown.2 with ⟨_, h⟩ | ⟨g2, cap, cur, rfl, hb, hg, hcap, hcm, hcs, htk⟩
  · omega
  have hlt := lt_of_block hg
  have hH : Holds (Value.int .i64) w2 g2 0 zs.toArray := by
    intro j hj
    have hj : j < zs.length := by simpa using hj
    refine ⟨cell_of_block hg (0 + j) ?_, frozen_of_block hg _⟩
    have h2 : (cur.toList.take (zs.length * 1))[j]? = (zs.map (Value.int .i64))[j]? := by rw [htk]
    rw [List.getElem?_take_of_lt (by omega), Array.getElem?_toList, List.getElem?_map] at h2
    rw [Nat.zero_add, h2]
    simp [hj]
  have h2 := hide (Tryz.slices_Sort_int g2 0 cap zs w2 hH hlt (by omega))
  replace hm := hide hm
  replace hH := hide hH
  clear hown hg htk
  go_wp2_with fail
  refine h2.out.mono ?_
  rintro e w3 ⟨rfl, n, os, hw3⟩
  have hm3 : Mod NoB w w3 := by
    rw [hw3]
    have hm := hm.out
    exact hm.into (mod_sorted w2 n g2 0 _ os) (fun k hk => Or.inr (by subst hk; exact hb))
  have hi3 : NumsAt w3 g2 (sortI zs) := by
    rw [hw3]
    intro j z hj
    have hjl : j < zs.length := by
      rw [← sortI_len zs]
      exact (List.getElem?_eq_some_iff.1 hj).1
    rw [cell?_grow _ _ _ (by simpa using hlt)]
    have := (holds_putRow (Value.int .i64) (Sort.ahead w2 n) g2 0 zs.toArray (zs.mergeSort fun x y => decide (x ≤ y)).toArray (holds_ahead _ _ _ _ _ _ hH.out) (by simp) j (by simpa using hjl)).1
    rw [Nat.zero_add] at this
    rw [this]
    unfold sortI at hj
    simp [List.getElem?_eq_some_iff.1 hj |>.2, getElem!_def, hj]
  clear hw3
  replace hm3 := hide hm3
  replace hi3 := hide hi3
  go_wp2_with fail
  go_ret
  exact ⟨_, _, rfl, hi3.out, hm3.out⟩
theorem mof_any (g c : Nat) (zs : List Int) (hn : zs.length ≤ 100000) (h0 : zs ≠ []) (w : World) (hc : NumsAt w g zs) :
    Calls Tryz.prog 198 #[.slice (some ⟨g, 0, none⟩) zs.length c] w fun e w' => e = .returned (.tuple #[.int .i64 (medI zs), .int .i64 0]) ∧ Mod NoB w w' := by
  have hp : 0 < zs.length := List.length_pos_iff.2 h0
  have h1 := hide (msorted_any g c zs hn h0 w hc)
  clear hc
  have hz : ((zs.length : Int) == 0) = false := by simpa using h0
  have hd : Int.tdiv ((zs.length : Int) - 1) 2 = (((zs.length - 1) / 2 : Nat) : Int) := by
    rw [Int.tdiv_eq_ediv_of_nonneg (by omega)]
    omega
  go_enter Tryz.func198, Tryz.ntmps198
  go_wp2_with fail
  refine h1.out.mono ?_
  rintro e w2 ⟨g2, c2, rfl, hi, hm⟩
  have hk : (zs.length - 1) / 2 < (sortI zs).length := by rw [sortI_len]; omega
  have hcell := hi ((zs.length - 1) / 2) _ (List.getElem?_eq_getElem hk)
  have hmed : (sortI zs)[(zs.length - 1) / 2] = medI zs := by unfold medI; simp [List.getD, hk]
  rw [hmed] at hcell
  replace hm := hide hm
  replace hi := hide hi
  clear hmed
  go_wp2_with fail
  go_ret2
  exact ⟨rfl, hm.out⟩
end Go.Proofs.YtkajhggdgpbfeaaGreatDoor

