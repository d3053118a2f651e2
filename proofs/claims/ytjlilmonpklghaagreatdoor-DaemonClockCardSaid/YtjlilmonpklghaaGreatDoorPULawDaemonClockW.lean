/- Of any two readings the clock's times are as far apart as these, but for the rate, and 1, whatever happens between. No condition. -/
import Derived.Test.YtjlilmonpklghaaGreatDoorPUbi
import Derived.Test.YtjlilmonpklghaaGreatDoorPUbj
import Derived.Test.YtjlilmonpklghaaGreatDoorPUam
import Derived.Lay
namespace Go.Proofs.YtjlilmonpklghaaGreatDoor
set_option linter.unusedVariables false
open Go.RowKit

structure InvC (ds : List Nat) (vs : List Value) (ci : Nat) (R : World → Value → Prop) (W0 : World) (L : Nat → Bool) (z : Nat → Value) (w : World) : Prop where
  m : Mod NoB W0 w
  v : ∀ i, i < ds.length → i ≠ ci → L i = true → z (ds.getD i 0) = vs.getD i undef
  r : L ci = true → R w (z (ds.getD ci 0))
variable {ds : List Nat} {vs : List Value} {ci : Nat} {R : World → Value → Prop} {W0 : World} {L : Nat → Bool} {z : Nat → Value} {w : World}
theorem InvC.start (h : ∀ q, L q = false) {w : World} (hm : Mod NoB W0 w) : InvC ds vs ci R W0 L z w :=
  ⟨hm, fun i _ _ e => (by rw [h] at e; cases e), fun e => (by rw [h] at e; cases e)⟩
theorem getD_inj {ds : List Nat} (hn : ds.Nodup) {i j : Nat} (hi : i < ds.length) (hj : j < ds.length) (h : i ≠ j) : ds.getD i 0 ≠ ds.getD j 0 := by
  intro e3
  have a : ds.getD j 0 = ds[j] := by simp [List.getD, hj]
  have b : ds.getD i 0 = ds[i] := by simp [List.getD, hi]
  rw [a, b] at e3
  rcases Nat.lt_trichotomy j i with k | k | k
  · exact List.pairwise_iff_getElem.1 hn j i hj hi k e3.symm
  · exact h k.symm
  · exact List.pairwise_iff_getElem.1 hn i j hi hj k e3
theorem InvC.put (h : InvC ds vs ci R W0 L z w) {i d : Nat} {v : Value} (hi : i < ds.length) (h1 : i ≠ ci) (hc : ci < ds.length) (hn : ds.Nodup) (hd : ds.getD i 0 = d) (hv : vs.getD i undef = v) : InvC ds vs ci R W0 (upd L i true) (upd z d v) w := by
  refine ⟨h.m, fun j hj j1 hL => ?_, fun hL => ?_⟩
  · by_cases e : j = i
    · subst e
      rw [hd, upd_same, hv]
    · rw [upd_ne _ _ e] at hL
      rw [upd_ne]
      · exact h.v j hj j1 hL
      · rw [← hd]
        exact getD_inj hn hj hi e
  · rw [upd_ne _ _ (Ne.symm h1)] at hL
    rw [upd_ne]
    · exact h.r hL
    · rw [← hd]
      exact getD_inj hn hc hi (Ne.symm h1)
theorem InvC.call (h : InvC ds vs ci R W0 L z w) {w' : World} {v : Value} {d : Nat} (hc : ci < ds.length) (hn : ds.Nodup) (hd : ds.getD ci 0 = d) (hm : Mod NoB w w') (hr : R w' v) : InvC ds vs ci R W0 (upd L ci true) (upd z d v) w' := by
  refine ⟨h.m.trans hm, fun j hj j1 hL => ?_, fun _ => ?_⟩
  · rw [upd_ne _ _ j1] at hL
    rw [upd_ne]
    · exact h.v j hj j1 hL
    · rw [← hd]
      exact getD_inj hn hj hc j1
  · rw [hd, upd_same]
    exact hr
/-- A frame whose slots ds are z's. -/
def putsZ (a : Act) (ds : List Nat) (z : Nat → Value) : Act := { tmps := ds.foldl (fun t d => t.setIfInBounds d (z d)) a.tmps, defers := a.defers }
theorem puts_get (z : Nat → Value) : ∀ (ds : List Nat) (t : Array Value) (i : Nat), (ds.foldl (fun t d => t.setIfInBounds d (z d)) t)[i]? = if i ∈ ds ∧ i < t.size then some (z i) else t[i]? := by
  intro ds
  induction ds with
  | nil => intro t i; simp
  | cons d ds ih =>
    intro t i
    rw [List.foldl_cons, ih, Array.size_setIfInBounds, Array.getElem?_setIfInBounds]
    by_cases hi : i < t.size
    · by_cases h1 : i ∈ ds
      · simp [h1, hi]
      · by_cases h2 : d = i
        · subst h2
          simp [h1, hi]
        · have : i ∉ d :: ds := by simp [h1, Ne.symm h2]
          simp [h1, h2, this]
    · by_cases h2 : d = i
      · subst h2
        simp [hi]
      · simp [hi, h2]
theorem frame_of {fr : (Nat → Value) → (Nat → Value) → Act} {n : Nat} {ds : List Nat} (hfr : ∀ V z, fr V z = { tmps := ((List.range n).map fun k => if k ∈ ds then z k else V k).toArray, defers := [] }) (a : Act) (h1 : a.tmps.size = n) (h2 : a.defers = []) (V : Nat → Value) (hV : ∀ k, V k = a.tmps.getD k undef) (z : Nat → Value) :
    fr V z = putsZ a ds z := by
  rw [hfr]
  obtain ⟨t, d⟩ := a
  simp only at h1 h2 hV
  subst h2
  unfold putsZ
  congr 1
  apply Array.ext_getElem?
  intro i
  rw [puts_get, List.getElem?_toArray, List.getElem?_map]
  by_cases hi : i < n
  · rw [List.getElem?_range hi]
    simp only [Option.map_some]
    by_cases hd : i ∈ ds
    · simp [hd, h1, hi]
    · have : t[i]? = some (t.getD i undef) := by simp [Array.getD, h1, hi]
      rw [if_neg hd, if_neg (fun x => hd x.1), hV, this]
  · have h3 : (List.range n)[i]? = none := by simp; omega
    have h4 : t[i]? = none := Array.getElem?_eq_none (by omega)
    simp [h1, hi]
theorem puts_self (a : Act) (ds : List Nat) : putsZ a ds (fun k => a.tmps.getD k undef) = a := by
  obtain ⟨t, d⟩ := a
  unfold putsZ
  congr 1
  apply Array.ext_getElem?
  intro i
  rw [puts_get]
  by_cases h : i ∈ ds ∧ i < t.size
  · rw [if_pos h]
    simp [Array.getD, h.2]
  · rw [if_neg h]
/-- A frame told by its slots. -/
theorem wp_frame {P : Program} {c : Code} {Q : Exit → Act → World → Prop} {w : World} (fr : (Nat → Value) → (Nat → Value) → Act) (n : Nat) (ds : List Nat) (hfr : ∀ V z, fr V z = { tmps := ((List.range n).map fun k => if k ∈ ds then z k else V k).toArray, defers := [] })
    (a : Act) (h1 : a.tmps.size = n) (h2 : a.defers = []) (h : ∀ V : Nat → Value, Hid (∀ k, V k = a.tmps.getD k undef) → Hid (∀ z, fr V z = putsZ a ds z) → c.wp P Q (fr V V) w) : c.wp P Q a w := by
  have hz := frame_of hfr a h1 h2 (fun k => a.tmps.getD k undef) (fun _ => rfl)
  have := h (fun k => a.tmps.getD k undef) (fun _ => rfl) hz
  rwa [hz, puts_self] at this
end Go.Proofs.YtjlilmonpklghaaGreatDoor

namespace Go.Proofs.YtjlilmonpklghaaGreatDoor.daemonClock
open Go.ChangeShapes Go.WideShapes Go.ChangeAt Go.RowKit Go.Proofs.YtjlilmonpklghaaGreatDoor
set_option linter.unusedVariables false
set_option linter.unusedSimpArgs false

theorem field5 (p : Option Addr) (n c : Nat) (q l m d s : Int) (w : World) : (Instr.field 59 (.agg #[.slice p n c, .int .i64 q, .int .i64 l, .int .i64 m, .int .i64 d, .int .i64 s]) 5).run Tryz.prog w = .ok (.int .i64 s) w := by kernel_rfl
theorem infoI64 : (Tryz.prog.info? 2).map (fun i => (i.zero, i.size, i.bytes)) = some (some (.int .i64 0), 1, 8) := by kernel_rfl
/-- All readings that were seen. -/
def SeenAll (d : DaemonS) (HS CS : List Int) : Prop := HS.length = CS.length ∧ ∀ (i : Nat) h c, HS[i]? = some h → CS[i]? = some c → 0 ≤ h ∧ h ≤ d.h ∧ I64 c ∧ SeenK d.k h c
theorem SeenAll.snoc {d d' : DaemonS} {HS CS : List Int} {h c : Int} (hs : SeenAll d HS CS) (h0 : 0 ≤ h) (hh : h ≤ d'.h) (hc : I64 c) (hk : SeenK d'.k h c) (hd : d.h ≤ d'.h) (hall : ∀ h1 c1, h1 ≤ d.h → SeenK d.k h1 c1 → SeenK d'.k h1 c1) : SeenAll d' (HS ++ [h]) (CS ++ [c]) := by
  refine ⟨by simp [hs.1], fun i a b ha hb => ?_⟩
  rcases Nat.lt_or_ge i HS.length with hi | hi
  · rw [List.getElem?_append_left hi] at ha
    rw [List.getElem?_append_left (by rw [← hs.1]; exact hi)] at hb
    obtain ⟨k1, k2, k3, k4⟩ := hs.2 i a b ha hb
    exact ⟨k1, by omega, k3, hall a b k2 k4⟩
  · rw [List.getElem?_append_right hi] at ha
    rw [List.getElem?_append_right (by rw [← hs.1]; exact hi)] at hb
    rw [← hs.1] at hb
    cases hz : i - HS.length with
    | zero =>
      rw [hz] at ha hb
      simp at ha hb
      subst ha hb
      exact ⟨h0, hh, hc, hk⟩
    | succ j => rw [hz] at ha; simp at ha
/-- Two rows of numbers of one's own. -/
structure RowsC (w2 : World) (Q : DPl) (HS CS : List Int) (vh vc : Value) (wr : World) : Prop where
  h : wr.ownsRow w2.heap.size 2 1 vh HS.length (HS.map (Value.int .i64))
  c : wr.ownsRow w2.heap.size 2 1 vc CS.length (CS.map (Value.int .i64))
  hn : ∀ g, vh.ownBlock = some g → ¬ fpD Q g
  cn : ∀ g, vc.ownBlock = some g → ¬ fpD Q g
  ne : ∀ g, vh.ownBlock = some g → vc.ownBlock ≠ some g
theorem RowsC.quiet {w2 : World} {Q : DPl} {HS CS : List Int} {vh vc : Value} {w w' : World} (h : RowsC w2 Q HS CS vh vc w) (hm : Mod NoB w w') : RowsC w2 Q HS CS vh vc w' :=
  ⟨ownsRow_mod2 h.h hm (fun _ _ => id), ownsRow_mod2 h.c hm (fun _ _ => id), h.hn, h.cn, h.ne⟩
theorem RowsC.to {w2 : World} {Q Q1 : DPl} {HS CS : List Int} {vh vc : Value} {w w' : World} (h : RowsC w2 Q HS CS vh vc w) (ht : DTo Q Q1 w w') : RowsC w2 Q1 HS CS vh vc w' :=
  ⟨(ht.row h.h h.hn).1, (ht.row h.c h.cn).1, (ht.row h.h h.hn).2, (ht.row h.c h.cn).2, h.ne⟩
theorem RowsC.lt {w2 : World} {Q : DPl} {HS CS : List Int} {vh vc : Value} {w : World} (h : RowsC w2 Q HS CS vh vc w) : (∀ g, vh.ownBlock = some g → g < w.heap.size) ∧ (∀ g, vc.ownBlock = some g → g < w.heap.size) :=
  ⟨fun g hg => let ⟨_, hc⟩ := own_block h.h hg; lt_of_block hc, fun g hg => let ⟨_, hc⟩ := own_block h.c hg; lt_of_block hc⟩
theorem RowsC.symm {w2 : World} {Q : DPl} {HS CS : List Int} {vh vc : Value} {w : World} (h : RowsC w2 Q HS CS vh vc w) : RowsC w2 Q CS HS vc vh w :=
  ⟨h.c, h.h, h.cn, h.hn, fun g a b => h.ne g b a⟩
theorem RowsC.addH {w2 : World} {Q : DPl} {d : DaemonS} {HS CS : List Int} {vh vc : Value} {w w' : World} (h : RowsC w2 Q HS CS vh vc w) (ho : One w2 Q d w) {v' : Value} {x : Int}
    (hown : w'.ownsRow w2.heap.size 2 1 v' (HS.length + 1) (HS.map (Value.int .i64) ++ [.int .i64 x])) (hg : w.grownBy w' vh.ownBlock) (hat : v'.ownBlock = vh.ownBlock ∨ v'.ownBlock = some w.heap.size) :
    RowsC w2 Q (HS ++ [x]) CS v' vc w' ∧ One w2 Q d w' ∧ Mod (fun k => vh.ownBlock = some k) w w' := by
  have hm : Mod (fun k => vh.ownBlock = some k) w w' := Mod.grownS (Mod.refl _ _) hg (fun _ h => h)
  refine ⟨⟨by simpa using hown, ownsRow_mod2 h.c hm (fun g hg e => h.ne g e hg), fun g hg f => ?_, h.cn, fun g hg e => ?_⟩, ho.put hm (fun k hk => h.hn k hk) (fun k hk => ?_), hm⟩
  · rcases hat with e | e
    · exact h.hn g (e ▸ hg) f
    · rw [e] at hg
      cases hg
      have := ho.d.lt _ f
      omega
  · rcases hat with e2 | e2
    · exact h.ne g (e2 ▸ hg) e
    · rw [e2] at hg
      cases hg
      have := h.lt.2 _ e
      omega
  · exact own_from h.h hk
/-- append of one number onto the first row, in a region that draws its order. -/
theorem stepH {ops : Array Oper} {o : Oper} {a : Act} {w wr w2 : World} {K : Act → World → Prop} {Qx : Exit → Act → World → Prop} {E : Prop} {Q : DPl} {d : DaemonS} {HS CS : List Int} {ph : Option Addr} {ch : Nat} {vc : Value}
    (hg : o.guard = none) (s x : Operand) (ho : o.op = .call { callee := .builtin .append, args := #[s, x], argTypes := #[66, 66] })
    (hrw : RowsC w2 Q HS CS (.slice ph HS.length ch) vc wr) (hone : One w2 Q d wr) (hm : Mod NoB wr w) (hs : a.eval s = .slice ph HS.length ch) (b : Nat) (hx : a.eval x = .slice (some ⟨b, 0, none⟩) 1 1)
    (y : Int) (hc : w.cell? ⟨b, 0, none⟩ = some (.int .i64 y)) (hlen : HS.length ≤ 100)
    (h : ∀ ph' ch' w', RowsC w2 Q (HS ++ [y]) CS (.slice ph' (HS.length + 1) ch') vc w' → One w2 Q d w' → Mod (fun k => (Value.slice ph HS.length ch).ownBlock = some k) w w' → K (a.put o.dst (.slice ph' (HS.length + 1) ch')) w') :
    if Region.wanted o (yielded ops a.tmps) = true then Oper.wp Tryz.prog o a w K Qx else E := by
  obtain ⟨i0, hi, hz0, hz1, hz2⟩ := info_parts infoI64
  have h1 := hrw.quiet hm
  refine step_append_at hg s x 66 ho w2.heap.size 2 i0 (.int .i64 0) 1 8 Tryz.underlying66 hi hz0 hz1 hz2 rfl (by decide) (.slice ph HS.length ch) HS.length (HS.map (Value.int .i64)) hs h1.h ⟨b, 0, none⟩ 1 1 [.int .i64 y] hx rfl ?_ ?_ ?_ ?_ ?_ ?_
  · intro j u hj
    cases j with
    | zero => cases hj; exact hc
    | succ j => simp at hj
  · intro u hu
    simp at hu
    subst hu
    rfl
  · unfold maxLen
    omega
  · omega
  · exact (hone.quiet hm).old.size
  · intro v' w' hown hgr hat
    obtain ⟨p', c', rfl⟩ := own_value hown
    obtain ⟨k1, k2, k3⟩ := h1.addH (hone.quiet hm) hown hgr hat
    exact h p' c' w' k1 k2 k3
theorem cell_a (w : World) (v : Value) (t : TypeId) : (w.alloc (.cells #[v] t)).drew.cell? ⟨w.heap.size, 0, none⟩ = some v := cell_of_block (w := (w.alloc (.cells #[v] t)).drew) (heap_alloc_new w _) 0 rfl
theorem cell_b (w : World) (v : Value) (t : TypeId) (o : Obj) : ((w.alloc (.cells #[v] t)).alloc o).drew.cell? ⟨w.heap.size, 0, none⟩ = some v := cell_of_block (w := ((w.alloc (.cells #[v] t)).alloc o).drew) ((heap_alloc_old (by simp) o).trans (heap_alloc_new w _)) 0 rfl
theorem cell_c (w : World) (v : Value) (t : TypeId) (o : Obj) : ((w.alloc o).alloc (.cells #[v] t)).drew.cell? ⟨w.heap.size + 1, 0, none⟩ = some v := by
  have := heap_alloc_new (w.alloc o) (.cells #[v] t)
  rw [World.size_alloc] at this
  exact cell_of_block (w := ((w.alloc o).alloc (.cells #[v] t)).drew) this 0 rfl
def frK (V : Nat → Value) (z : Nat → Value) : Act := { tmps := #[V 0, V 1, V 2, V 3, V 4, V 5, V 6, V 7, V 8, V 9, z 10, z 11, V 12, V 13, V 14, V 15, V 16, V 17, V 18, V 19, V 20, V 21, V 22, V 23, V 24, V 25, V 26, V 27, V 28, V 29, V 30, V 31, V 32, V 33, V 34, V 35, V 36, V 37, V 38, V 39, V 40, V 41, V 42, V 43, V 44, V 45, V 46, V 47, V 48, V 49, V 50, V 51, V 52, V 53, V 54, V 55, V 56, V 57, V 58, V 59, V 60, V 61, V 62, V 63, V 64, V 65, V 66, V 67, V 68, V 69, V 70, V 71, V 72, V 73, V 74, V 75, V 76, V 77, V 78, V 79, V 80, V 81, V 82, V 83, V 84, V 85, V 86, V 87, V 88, V 89, V 90, V 91, V 92, V 93, V 94, V 95, V 96, V 97, V 98, V 99, V 100, V 101, V 102, V 103, V 104, V 105, V 106, V 107, V 108, V 109, V 110, V 111, V 112, V 113, V 114, V 115, V 116, V 117, V 118, V 119, V 120, V 121, V 122, V 123, V 124, V 125, V 126, V 127, V 128, V 129, V 130, V 131, V 132, V 133, V 134, V 135, V 136, V 137, V 138, z 139, z 140, z 141, z 142, z 143, z 144, z 145, z 146, z 147, z 148, V 149, V 150], defers := [] }
/-- What is known inside the region of two appends. -/
structure InvK (w2 : World) (Q : DPl) (d : DaemonS) (HS CS : List Int) (h c : Int) (vh vc : Value) (bE bo : Nat) (oE oO : Obj) (n0 : Nat) (L : Nat → Bool) (z : Nat → Value) (w : World) : Prop where
  one : One w2 Q d w
  sz : n0 ≤ w.heap.size
  e : w.heap[bE]? = some oE
  o : w.heap[bo]? = some oO
  r0 : L 4 = false → RowsC w2 Q HS CS vh vc w
  r1 : L 4 = true → L 9 = false → ∃ p k, z 143 = .slice p (HS.length + 1) k ∧ RowsC w2 Q (HS ++ [h]) CS (z 143) vc w
  r2 : L 9 = true → ∃ p k p' k', z 143 = .slice p (HS.length + 1) k ∧ z 148 = .slice p' (CS.length + 1) k' ∧ RowsC w2 Q (HS ++ [h]) (CS ++ [c]) (z 143) (z 148) w
  m : L 9 = true → L 4 = true
  f0 : L 0 = true → z 139 = vh
  f1 : L 1 = true → z 140 = .pointer (some ⟨bE, 1, none⟩)
  f2 : L 2 = true → z 141 = .int .i64 h
  f3 : L 3 = true → L 4 = false → ∃ b, z 142 = .slice (some ⟨b, 0, none⟩) 1 1 ∧ n0 ≤ b ∧ w.cell? ⟨b, 0, none⟩ = some (.int .i64 h)
  f5 : L 5 = true → z 144 = vc
  f6 : L 6 = true → z 145 = .pointer (some ⟨bo, 1, none⟩)
  f7 : L 7 = true → z 146 = .int .i64 c
  f8 : L 8 = true → L 9 = false → ∃ b, z 147 = .slice (some ⟨b, 0, none⟩) 1 1 ∧ n0 ≤ b ∧ w.cell? ⟨b, 0, none⟩ = some (.int .i64 c)
  f10 : L 10 = true → z 10 = z 143
  f10' : L 10 = false → z 10 = vh
  f11 : L 11 = true → z 11 = z 148
  f11' : L 11 = false → z 11 = vc
  g10 : L 10 = true → L 0 = true ∧ L 4 = true
  g11 : L 11 = true → L 5 = true ∧ L 9 = true
theorem InvK.op0 {w2 : World} {Q : DPl} {d : DaemonS} {HS CS : List Int} {h c : Int} {vh vc : Value} {bE bo : Nat} {oE oO : Obj} {n0 : Nat} {L : Nat → Bool} {z : Nat → Value} {w : World} (hI : InvK w2 Q d HS CS h c vh vc bE bo oE oO n0 L z w) : InvK w2 Q d HS CS h c vh vc bE bo oE oO n0 (upd L 0 true) (upd z 139 vh) w :=
  ⟨hI.one, hI.sz, hI.e, hI.o, hI.r0, hI.r1, hI.r2, hI.m, fun _ => rfl, hI.f1, hI.f2, hI.f3, hI.f5, hI.f6, hI.f7, hI.f8, hI.f10, hI.f10', hI.f11, hI.f11', fun e => ⟨rfl, (hI.g10 e).2⟩, hI.g11⟩
theorem InvK.op1 {w2 : World} {Q : DPl} {d : DaemonS} {HS CS : List Int} {h c : Int} {vh vc : Value} {bE bo : Nat} {oE oO : Obj} {n0 : Nat} {L : Nat → Bool} {z : Nat → Value} {w : World} (hI : InvK w2 Q d HS CS h c vh vc bE bo oE oO n0 L z w) : InvK w2 Q d HS CS h c vh vc bE bo oE oO n0 (upd L 1 true) (upd z 140 (.pointer (some ⟨bE, 1, none⟩))) w :=
  ⟨hI.one, hI.sz, hI.e, hI.o, hI.r0, hI.r1, hI.r2, hI.m, hI.f0, fun _ => rfl, hI.f2, hI.f3, hI.f5, hI.f6, hI.f7, hI.f8, hI.f10, hI.f10', hI.f11, hI.f11', hI.g10, hI.g11⟩
theorem InvK.op2 {w2 : World} {Q : DPl} {d : DaemonS} {HS CS : List Int} {h c : Int} {vh vc : Value} {bE bo : Nat} {oE oO : Obj} {n0 : Nat} {L : Nat → Bool} {z : Nat → Value} {w : World} (hI : InvK w2 Q d HS CS h c vh vc bE bo oE oO n0 L z w) : InvK w2 Q d HS CS h c vh vc bE bo oE oO n0 (upd L 2 true) (upd z 141 (.int .i64 h)) w :=
  ⟨hI.one, hI.sz, hI.e, hI.o, hI.r0, hI.r1, hI.r2, hI.m, hI.f0, hI.f1, fun _ => rfl, hI.f3, hI.f5, hI.f6, hI.f7, hI.f8, hI.f10, hI.f10', hI.f11, hI.f11', hI.g10, hI.g11⟩
theorem InvK.op5 {w2 : World} {Q : DPl} {d : DaemonS} {HS CS : List Int} {h c : Int} {vh vc : Value} {bE bo : Nat} {oE oO : Obj} {n0 : Nat} {L : Nat → Bool} {z : Nat → Value} {w : World} (hI : InvK w2 Q d HS CS h c vh vc bE bo oE oO n0 L z w) : InvK w2 Q d HS CS h c vh vc bE bo oE oO n0 (upd L 5 true) (upd z 144 vc) w :=
  ⟨hI.one, hI.sz, hI.e, hI.o, hI.r0, hI.r1, hI.r2, hI.m, hI.f0, hI.f1, hI.f2, hI.f3, fun _ => rfl, hI.f6, hI.f7, hI.f8, hI.f10, hI.f10', hI.f11, hI.f11', hI.g10, fun e => ⟨rfl, (hI.g11 e).2⟩⟩
theorem InvK.op6 {w2 : World} {Q : DPl} {d : DaemonS} {HS CS : List Int} {h c : Int} {vh vc : Value} {bE bo : Nat} {oE oO : Obj} {n0 : Nat} {L : Nat → Bool} {z : Nat → Value} {w : World} (hI : InvK w2 Q d HS CS h c vh vc bE bo oE oO n0 L z w) : InvK w2 Q d HS CS h c vh vc bE bo oE oO n0 (upd L 6 true) (upd z 145 (.pointer (some ⟨bo, 1, none⟩))) w :=
  ⟨hI.one, hI.sz, hI.e, hI.o, hI.r0, hI.r1, hI.r2, hI.m, hI.f0, hI.f1, hI.f2, hI.f3, hI.f5, fun _ => rfl, hI.f7, hI.f8, hI.f10, hI.f10', hI.f11, hI.f11', hI.g10, hI.g11⟩
theorem InvK.op7 {w2 : World} {Q : DPl} {d : DaemonS} {HS CS : List Int} {h c : Int} {vh vc : Value} {bE bo : Nat} {oE oO : Obj} {n0 : Nat} {L : Nat → Bool} {z : Nat → Value} {w : World} (hI : InvK w2 Q d HS CS h c vh vc bE bo oE oO n0 L z w) : InvK w2 Q d HS CS h c vh vc bE bo oE oO n0 (upd L 7 true) (upd z 146 (.int .i64 c)) w :=
  ⟨hI.one, hI.sz, hI.e, hI.o, hI.r0, hI.r1, hI.r2, hI.m, hI.f0, hI.f1, hI.f2, hI.f3, hI.f5, hI.f6, fun _ => rfl, hI.f8, hI.f10, hI.f10', hI.f11, hI.f11', hI.g10, hI.g11⟩
theorem InvK.op10 {w2 : World} {Q : DPl} {d : DaemonS} {HS CS : List Int} {h c : Int} {vh vc : Value} {bE bo : Nat} {oE oO : Obj} {n0 : Nat} {L : Nat → Bool} {z : Nat → Value} {w : World} (hI : InvK w2 Q d HS CS h c vh vc bE bo oE oO n0 L z w) (hp : L 0 = true ∧ L 4 = true) : InvK w2 Q d HS CS h c vh vc bE bo oE oO n0 (upd L 10 true) (upd z 10 (z 143)) w :=
  ⟨hI.one, hI.sz, hI.e, hI.o, hI.r0, hI.r1, hI.r2, hI.m, hI.f0, hI.f1, hI.f2, hI.f3, hI.f5, hI.f6, hI.f7, hI.f8, fun _ => rfl, fun e => (nomatch e), hI.f11, hI.f11', fun _ => hp, hI.g11⟩
theorem InvK.op11 {w2 : World} {Q : DPl} {d : DaemonS} {HS CS : List Int} {h c : Int} {vh vc : Value} {bE bo : Nat} {oE oO : Obj} {n0 : Nat} {L : Nat → Bool} {z : Nat → Value} {w : World} (hI : InvK w2 Q d HS CS h c vh vc bE bo oE oO n0 L z w) (hp : L 5 = true ∧ L 9 = true) : InvK w2 Q d HS CS h c vh vc bE bo oE oO n0 (upd L 11 true) (upd z 11 (z 148)) w :=
  ⟨hI.one, hI.sz, hI.e, hI.o, hI.r0, hI.r1, hI.r2, hI.m, hI.f0, hI.f1, hI.f2, hI.f3, hI.f5, hI.f6, hI.f7, hI.f8, hI.f10, hI.f10', fun _ => rfl, fun e => (nomatch e), hI.g10, fun _ => hp⟩
theorem InvK.op3 {w2 : World} {Q : DPl} {d : DaemonS} {HS CS : List Int} {h c : Int} {vh vc : Value} {bE bo : Nat} {oE oO : Obj} {n0 : Nat} {L : Nat → Bool} {z : Nat → Value} {w : World} (hI : InvK w2 Q d HS CS h c vh vc bE bo oE oO n0 L z w) : InvK w2 Q d HS CS h c vh vc bE bo oE oO n0 (upd L 3 true) (upd z 142 (.slice (some ⟨w.heap.size, 0, none⟩) 1 1)) (w.alloc (.cells #[.int .i64 h] 2)) :=
  ⟨hI.one.quiet ((Mod.refl NoB w).alloc (.cells #[.int .i64 h] 2)), Nat.le_trans hI.sz ((Mod.refl NoB w).alloc (.cells #[.int .i64 h] 2)).size, ((Mod.refl NoB w).alloc (.cells #[.int .i64 h] 2)).heap hI.e id, ((Mod.refl NoB w).alloc (.cells #[.int .i64 h] 2)).heap hI.o id, fun e => (hI.r0 e).quiet ((Mod.refl NoB w).alloc (.cells #[.int .i64 h] 2)), fun a b => let ⟨p, k, h1, h2⟩ := hI.r1 a b; ⟨p, k, h1, h2.quiet ((Mod.refl NoB w).alloc (.cells #[.int .i64 h] 2))⟩, fun a => let ⟨p, k, p', k', h1, h2, h3⟩ := hI.r2 a; ⟨p, k, p', k', h1, h2, h3.quiet ((Mod.refl NoB w).alloc (.cells #[.int .i64 h] 2))⟩, hI.m, hI.f0, hI.f1, hI.f2, fun _ _ => ⟨w.heap.size, rfl, hI.sz, cell_of_block (heap_alloc_new w _) 0 rfl⟩, hI.f5, hI.f6, hI.f7, fun a b => let ⟨b', h1, h2, h3⟩ := hI.f8 a b; ⟨b', h1, h2, ((Mod.refl NoB w).alloc (.cells #[.int .i64 h] 2)).cellAt id h3⟩, hI.f10, hI.f10', hI.f11, hI.f11', hI.g10, hI.g11⟩
theorem InvK.op8 {w2 : World} {Q : DPl} {d : DaemonS} {HS CS : List Int} {h c : Int} {vh vc : Value} {bE bo : Nat} {oE oO : Obj} {n0 : Nat} {L : Nat → Bool} {z : Nat → Value} {w : World} (hI : InvK w2 Q d HS CS h c vh vc bE bo oE oO n0 L z w) : InvK w2 Q d HS CS h c vh vc bE bo oE oO n0 (upd L 8 true) (upd z 147 (.slice (some ⟨w.heap.size, 0, none⟩) 1 1)) (w.alloc (.cells #[.int .i64 c] 2)) :=
  ⟨hI.one.quiet ((Mod.refl NoB w).alloc (.cells #[.int .i64 c] 2)), Nat.le_trans hI.sz ((Mod.refl NoB w).alloc (.cells #[.int .i64 c] 2)).size, ((Mod.refl NoB w).alloc (.cells #[.int .i64 c] 2)).heap hI.e id, ((Mod.refl NoB w).alloc (.cells #[.int .i64 c] 2)).heap hI.o id, fun e => (hI.r0 e).quiet ((Mod.refl NoB w).alloc (.cells #[.int .i64 c] 2)), fun a b => let ⟨p, k, h1, h2⟩ := hI.r1 a b; ⟨p, k, h1, h2.quiet ((Mod.refl NoB w).alloc (.cells #[.int .i64 c] 2))⟩, fun a => let ⟨p, k, p', k', h1, h2, h3⟩ := hI.r2 a; ⟨p, k, p', k', h1, h2, h3.quiet ((Mod.refl NoB w).alloc (.cells #[.int .i64 c] 2))⟩, hI.m, hI.f0, hI.f1, hI.f2, fun a b => let ⟨b', h1, h2, h3⟩ := hI.f3 a b; ⟨b', h1, h2, ((Mod.refl NoB w).alloc (.cells #[.int .i64 c] 2)).cellAt id h3⟩, hI.f5, hI.f6, hI.f7, fun _ _ => ⟨w.heap.size, rfl, hI.sz, cell_of_block (heap_alloc_new w _) 0 rfl⟩, hI.f10, hI.f10', hI.f11, hI.f11', hI.g10, hI.g11⟩
theorem InvK.op4 {w2 : World} {Q : DPl} {d : DaemonS} {HS CS : List Int} {h c : Int} {vh vc : Value} {bE bo : Nat} {oE oO : Obj} {n0 : Nat} {L : Nat → Bool} {z : Nat → Value} {w : World} (hI : InvK w2 Q d HS CS h c vh vc bE bo oE oO n0 L z w) {w' : World} {p : Option Addr} {k : Nat} (hn : L 9 = false) (hr : RowsC w2 Q (HS ++ [h]) CS (.slice p (HS.length + 1) k) vc w') (ho : One w2 Q d w') (hm : Mod (fun b => vh.ownBlock = some b) w w') (nE : ¬ vh.ownBlock = some bE) (nO : ¬ vh.ownBlock = some bo) (hl : ∀ b, vh.ownBlock = some b → b < n0) (h10 : ¬ L 10 = true) : InvK w2 Q d HS CS h c vh vc bE bo oE oO n0 (upd L 4 true) (upd z 143 (.slice p (HS.length + 1) k)) w' :=
  ⟨ho, Nat.le_trans hI.sz hm.size, hm.heap hI.e nE, hm.heap hI.o nO, fun e => (nomatch e), fun _ _ => ⟨p, k, rfl, hr⟩, fun a => absurd (show L 9 = true from a) (by rw [hn]; decide), fun _ => rfl, hI.f0, hI.f1, hI.f2, fun _ b => (nomatch b), hI.f5, hI.f6, hI.f7, fun a b => let ⟨b', h1, h2, h3⟩ := hI.f8 a b; ⟨b', h1, h2, hm.cellAt (fun e => absurd (hl _ e) (Nat.not_lt.2 h2)) h3⟩, fun a => absurd (show L 10 = true from a) (fun e => h10 e), hI.f10', hI.f11, hI.f11', fun a => absurd (show L 10 = true from a) (fun e => h10 e), hI.g11⟩
theorem InvK.op9 {w2 : World} {Q : DPl} {d : DaemonS} {HS CS : List Int} {h c : Int} {vh vc : Value} {bE bo : Nat} {oE oO : Obj} {n0 : Nat} {L : Nat → Bool} {z : Nat → Value} {w : World} (hI : InvK w2 Q d HS CS h c vh vc bE bo oE oO n0 L z w) {w' : World} {p : Option Addr} {k : Nat} (hn : L 9 = false) (h4 : L 4 = true) (hr : RowsC w2 Q (HS ++ [h]) (CS ++ [c]) (z 143) (.slice p (CS.length + 1) k) w') (ho : One w2 Q d w') (hm : Mod (fun b => vc.ownBlock = some b) w w') (nE : ¬ vc.ownBlock = some bE) (nO : ¬ vc.ownBlock = some bo) (hl : ∀ b, vc.ownBlock = some b → b < n0) (h11 : ¬ L 11 = true) : InvK w2 Q d HS CS h c vh vc bE bo oE oO n0 (upd L 9 true) (upd z 148 (.slice p (CS.length + 1) k)) w' :=
  ⟨ho, Nat.le_trans hI.sz hm.size, hm.heap hI.e nE, hm.heap hI.o nO, fun e => absurd (show L 4 = false from e) (by rw [h4]; decide), fun _ b => (nomatch b), fun _ => let ⟨p1, k1, h1, _⟩ := hI.r1 h4 hn; ⟨p1, k1, p, k, h1, rfl, hr⟩, fun _ => h4, hI.f0, hI.f1, hI.f2, fun a b => absurd (show L 4 = false from b) (by rw [h4]; decide), hI.f5, hI.f6, hI.f7, fun _ b => (nomatch b), hI.f10, hI.f10', fun a => absurd (show L 11 = true from a) (fun e => h11 e), hI.f11', hI.g10, fun a => absurd (show L 11 = true from a) (fun e => h11 e)⟩
set_option maxRecDepth 100000 in
set_option maxHeartbeats 80000000 in
theorem walk (l : List UInt8) (hl : l.length ≤ 9223372036854775807) (p : Option Addr) (cap : Nat) (L : List ActS) (hLl : L.length ≤ 9223372036854775807) (w : World) (hL : LaidN w) (hA : ActsAt w p L) :
    Calls Tryz.prog 6 #[.string (bs l), .slice p L.length cap] w fun e w' => e = .returned (.bool true) ∧ Mod NoB w w' := by
  have hal := hide (fun wx (hm : Mod NoB w wx) => alive_any wx (hL.mod hm))
  have hgr := hide (fun wx (hm : Mod NoB w wx) => great_any p cap L hLl wx (hA.mod hm))
  have hnw := hide (fun wx (hm : Mod NoB w wx) => new_any l hl 0 0 wx (hL.mod hm))
  obtain ⟨n, hn⟩ : ∃ n, L.length = n := ⟨_, rfl⟩
  rw [hn] at hgr hLl ⊢
  replace hL := hide hL
  replace hA := hide hA
  replace hn := hide hn
  go_enter Tryz.func6, Tryz.ntmps6
  have hm1 : Hid (Mod NoB w w) := hide (Mod.refl _ _)
  by_cases h2l : 2000 < l.length
  · clear hgr hnw
    go_wp2_with fail
    refine (hal.out _ hm1.out).mono ?_
    rintro e w8 ⟨rfl, hm8⟩
    replace hm1 := hide (hm1.out.trans hm8)
    clear hm8
    go_wp2_with fail
    go_ret
    exact ⟨rfl, hm1.out⟩
  go_wp2_with fail
  refine (hgr.out _ hm1.out).mono ?_
  rintro e w2 ⟨g, rfl, hg, hm2⟩
  replace hm1 := hide (hm1.out.trans hm2)
  clear hm2 hgr
  rcases hg with rfl | ⟨rfl, hn80⟩
  · clear hnw
    go_wp2_with fail
    refine (hal.out _ hm1.out).mono ?_
    rintro e w8 ⟨rfl, hm8⟩
    replace hm1 := hide (hm1.out.trans hm8)
    clear hm8
    go_wp2_with fail
    go_ret
    exact ⟨rfl, hm1.out⟩
  replace hn80 := hide hn80
  go_wp2_with fail
  refine (hnw.out _ hm1.out).mono ?_
  rintro e w3 hp3
  have hm3 := hide (hm1.out.trans hp3.1)
  rcases hno : newOut l 0 0 with ⟨ln, er⟩ | c
  · obtain ⟨rfl, hm3'⟩ := new_none hp3 hno
    clear hp3 hm3' hnw
    have hne := newOut_no hno
    replace hno := hide hno
    have heb : (er != 0) = true := by simpa using hne
    replace hne := hide hne
    go_wp2_with fail
    refine (hal.out _ hm3.out).mono ?_
    rintro e w8 ⟨rfl, hm8⟩
    replace hm3 := hide (hm3.out.trans hm8)
    clear hm8
    go_wp2_with fail
    go_ret
    exact ⟨rfl, hm3.out⟩
  · obtain ⟨P, rfl, ho3⟩ := One.new hp3 hno
    clear hp3 hnw
    have hck := (newOut_yes hno).2.2.1
    have hne0 := (newOut_yes hno).2.2.2
    replace hno := hide hno
    obtain ⟨_, _, ⟨q1, q2⟩, _, s1, s2⟩ := cfg_nums hck
    have h16 := (fine_srv (check_fine hck)).2.1
    have hcf := hide (dconfig_any P (newS c 0 0) (by show 0 < c.srv.length; omega) (by show c.srv.length ≤ 1000; omega) w3 ho3.d)
    replace hck := hide hck
    replace hne0 := hide hne0
    replace ho3 := hide ho3
    go_wp2_with fail
    refine hcf.out.mono ?_
    rintro e w4 ⟨v4, rfl, hrow4, hm4⟩
    obtain ⟨p4, c4, rfl⟩ := own_value hrow4
    have hfd := field5 p4
    replace ho3 := hide (ho3.out.quiet hm4)
    obtain ⟨rt, hrt⟩ : ∃ rt, (newS c 0 0).c.s = rt := ⟨_, rfl⟩
    rw [hrt]
    have hr1 : 1 ≤ rt := by rw [← hrt]; exact s1
    have hr2 : rt ≤ 500 := by rw [← hrt]; exact s2
    have hrt2 : (newS c 0 0).k.rate = rt := hrt
    replace hrt := hide hrt
    replace hrt2 := hide hrt2
    clear hcf hrow4 hm4 q1 q2 h16 s1 s2
    go_upto_region 7 with (fail)
    clear hfd
    have hb0 := ho3.out.b
    go_wp2_with fail
    go_loopw [51, 9, 10, 11] (fun s51 s9 s10 s11 wr => ∃ (k dr : Nat) (Q : DPl) (d : DaemonS) (HS CS : List Int) (ph pc : Option Addr) (ch cc : Nat), s51 = .int .i64 k ∧ s9 = .int .u64 dr ∧ s10 = .slice ph HS.length ch ∧ s11 = .slice pc CS.length cc ∧ k ≤ n ∧ dr < 18446744073709551616 ∧ Q.b = P.b ∧ d.Ok ∧ d.Cnt k ∧ d.k.rate = rt ∧ One w2 Q d wr ∧ SeenAll d HS CS ∧ HS.length ≤ k ∧ RowsC w2 Q HS CS (.slice ph HS.length ch) (.slice pc CS.length cc) wr) (fun s51 _ _ _ wr => n - (match s51 with | .int _ i => i.toNat | _ => 0))
    case atStart => exact ⟨0, 0, P, newS c 0 0, [], [], none, none, 0, 0, rfl, rfl, rfl, rfl, Nat.zero_le _, by decide, rfl, (newS_ok hck.out hne0.out).1, (newS_ok hck.out hne0.out).2, hrt2.out, ho3.out, ⟨rfl, fun i h c hh => by simp at hh⟩, Nat.zero_le _, ⟨⟨rfl, Or.inl ⟨rfl, rfl⟩⟩, ⟨rfl, Or.inl ⟨rfl, rfl⟩⟩, fun g h => (by cases h), fun g h => (by cases h), fun g h => (by cases h)⟩⟩
    case round =>
      obtain ⟨k, dr, Q, d, HS, CS, ph, pc, ch, cc, rfl, rfl, rfl, rfl, hk, hdr, hq, hok, hcn, hdrt, ht, hsa, hHk, hrw⟩ := hrel
      replace hq := hide hq
      replace hok := hide hok
      replace hcn := hide hcn
      replace hdr := hide hdr
      replace hdrt := hide hdrt
      replace hsa := hide hsa
      replace hrw := hide hrw
      by_cases hkn : k < n
      · clear hm3
        obtain ⟨x, hx⟩ : ∃ x, L[k]? = some x := ⟨L[k]'(by rw [hn.out]; exact hkn), List.getElem?_eq_getElem (by rw [hn.out]; exact hkn)⟩
        obtain ⟨g, off, rfl, hglt, hat⟩ := hA.out k x hx
        obtain ⟨⟨dp, dc, c0, c1, c2, c3, c4, c5, hda, hdl⟩, ik, ih, ia, id'⟩ := hat
        have hmr := hm1.out.trans ht.old
        replace c0 := hmr.cellAt id c0
        replace c1 := hmr.cellAt id c1
        replace c2 := hmr.cellAt id c2
        replace c3 := hmr.cellAt id c3
        replace c4 := hmr.cellAt id c4
        replace c5 := hmr.cellAt id c5
        replace hda := hda.mod hmr
        replace hglt := Nat.lt_of_lt_of_le hglt hmr.size
        replace hdl : ∀ bd off, dp = some ⟨bd, off, none⟩ → 0 < x.e.data.length → bd < w2.heap.size := fun bd off a b => Nat.lt_of_lt_of_le (hdl bd off a b) hm1.out.size
        replace hdl := hide hdl
        clear hmr
        replace ht := hide ht
        replace hda := hide hda
        replace hx := hide hx
        have hki : (k : Int) < n := by omega
        go_upto_region 12 with (fail)
        have hw5 := heap_alloc_new wr (.cells #[.int .i64 x.e.kind, .int .i64 x.e.h, .int .i64 x.e.addr, .int .u64 (x.e.draw : Int), .slice dp x.e.data.length dc, .bool x.good] 35)
        have hq5 : Mod NoB wr (wr.alloc (.cells #[.int .i64 x.e.kind, .int .i64 x.e.h, .int .i64 x.e.addr, .int .u64 (x.e.draw : Int), .slice dp x.e.data.length dc, .bool x.good] 35)) := (Mod.refl _ _).alloc _
        generalize wr.alloc (.cells #[.int .i64 x.e.kind, .int .i64 x.e.h, .int .i64 x.e.addr, .int .u64 (x.e.draw : Int), .slice dp x.e.data.length dc, .bool x.good] 35) = w5 at *
        replace hda := hide (hda.out.mod hq5)
        replace ht := hide (ht.out.quiet hq5)
        replace hrw := hide (hrw.out.quiet hq5); obtain ⟨bA, hbA⟩ : ∃ bA, wr.heap.size = bA := ⟨_, rfl⟩; rw [hbA] at hw5 ⊢; replace hbA := hide hbA
        clear hq5 c0 c1 c2 c3 c4 c5
        have c0 := cell_of_block hw5 0 (v := .int .i64 x.e.kind) rfl
        have c1 := cell_of_block hw5 1 (v := .int .i64 x.e.h) rfl
        have c2 := cell_of_block hw5 2 (v := .int .i64 x.e.addr) rfl
        have c3 := cell_of_block hw5 3 (v := .int .u64 (x.e.draw : Int)) rfl
        have c4 := cell_of_block hw5 4 (v := .slice dp x.e.data.length dc) rfl
        have c5 := cell_of_block hw5 5 (v := .bool x.good) rfl
        replace hw5 := hide hw5
        have hev := hide (event_any x dp dc dr hdr.out id' w5 hda.out)
        go_wp2_with fail
        refine hev.out.mono ?_
        rintro e w6 ⟨dp', dc', rfl, hda6, hap6, hm6⟩
        replace hrw := hide (hrw.out.quiet hm6)
        clear hev c0 c1 c2 c3 c4 c5 hw5
        obtain ⟨z, hz⟩ : ∃ z, evOf x dr = z := ⟨_, rfl⟩
        rw [hz] at hda6 hap6 ⊢
        have hap := hide (ev_apart (w := w5) (l' := z.data) (dp' := dp') ht.out (dp := dp) (l := x.e.data) hdl.out hap6)
        replace ht := hide (ht.out.quiet hm6)
        replace hda6 := hide hda6
        obtain ⟨iz1, iz2, iz3, iz4⟩ := evOf_in ik ih ia id' dr
        rw [hz] at iz1 iz2 iz3 iz4
        replace hz := hide hz
        clear hm6 hap6 hda
        go_upto_region 13 with (fail)
        have hEn : ¬ fpD Q w6.heap.size := fun x => Nat.lt_irrefl _ (ht.out.d.lt _ x)
        have hw7 := heap_alloc_new w6 (.cells #[.int .i64 z.kind, .int .i64 z.h, .int .i64 z.addr, .int .u64 (z.draw : Int), .slice dp' z.data.length dc'] 33)
        have hq7 : Mod NoB w6 (w6.alloc (.cells #[.int .i64 z.kind, .int .i64 z.h, .int .i64 z.addr, .int .u64 (z.draw : Int), .slice dp' z.data.length dc'] 33)) := (Mod.refl _ _).alloc _
        generalize w6.alloc (.cells #[.int .i64 z.kind, .int .i64 z.h, .int .i64 z.addr, .int .u64 (z.draw : Int), .slice dp' z.data.length dc'] 33) = w7 at *
        replace hda6 := hide (hda6.out.mod hq7)
        replace ht := hide (ht.out.quiet hq7)
        replace hrw := hide (hrw.out.quiet hq7)
        obtain ⟨bE, hbE⟩ : ∃ bE, w6.heap.size = bE := ⟨_, rfl⟩
        rw [hbE] at hw7 hEn ⊢
        replace hEn := hide hEn
        clear hq7
        replace hw7 := hide hw7
        replace hbE := hide hbE
        have x0 := cell_of_block hw7.out 0 (v := .int .i64 z.kind) rfl
        have x1 := cell_of_block hw7.out 1 (v := .int .i64 z.h) rfl
        have x2 := cell_of_block hw7.out 2 (v := .int .i64 z.addr) rfl
        have x3 := cell_of_block hw7.out 3 (v := .int .u64 (z.draw : Int)) rfl
        have x4 := cell_of_block hw7.out 4 (v := .slice dp' z.data.length dc') rfl
        have hN8 : (k : Int) ≤ 9007199254740992 := by have := hn80.out; omega
        have hrd := hide (dread_any Q d hok.out.k z.h iz2 w7 ht.out.d)
        have hdo := hide (fun wx (hx : DO wx Q d) (hy : DataAt wx (.slice dp' z.data.length dc') z.data) => do_z (P := Q) hok.out hcn.out hN8 iz1 iz2 iz4 dp' dc' hx hy hap.out)
        rw [hq.out] at hrd hdo
        obtain ⟨bf, be, hbf⟩ : ∃ bf be, (atR d.k z.h).1.c = bf ∧ (atR d.k z.h).2 = be := ⟨_, _, rfl, rfl⟩
        rw [hbf.1, hbf.2] at hrd
        replace hbf := hide hbf
        go_wp2_with fail
        refine hrd.out.mono ?_
        rintro _ wa ⟨rfl, hma⟩
        have hdoa := hide (hdo.out wa (ht.out.quiet hma).d (hda6.out.mod hma))
        replace hw7 := hide (hma.heap hw7.out id)
        replace ht := hide (ht.out.quiet hma)
        replace hrw := hide (hrw.out.quiet hma)
        replace hda6 := hide (hda6.out.mod hma)
        clear hma hrd hdo x0 x1 x2 x3 x4
        have x0 := cell_of_block hw7.out 0 (v := .int .i64 z.kind) rfl
        have x1 := cell_of_block hw7.out 1 (v := .int .i64 z.h) rfl
        have x2 := cell_of_block hw7.out 2 (v := .int .i64 z.addr) rfl
        have x3 := cell_of_block hw7.out 3 (v := .int .u64 (z.draw : Int)) rfl
        have x4 := cell_of_block hw7.out 4 (v := .slice dp' z.data.length dc') rfl
        obtain ⟨hok2, hcn2⟩ := hok.out.do (e := z) iz4 hcn.out hN8
        have hno0 : errS d z ≠ 0 → doS d z = (d, out0) := doS_err
        have hye0 : errS d z = 0 → bf = (doS d z).2.clock ∧ (0 ≤ z.h ∧ z.h ≤ 4611686018427387903 ∧ d.h ≤ z.h ∧ (doS d z).1.h = z.h ∧ I64 (doS d z).2.clock) ∧ (doS d z).1.k.rate = rt ∧ SeenK (doS d z).1.k z.h (doS d z).2.clock ∧
            ∀ h1 c1, h1 ≤ d.h → SeenK d.k h1 c1 → GapR rt h1 c1 z.h (doS d z).2.clock ∧ SeenK (doS d z).1.k h1 c1 := by
          intro h0
          obtain ⟨e1, e2, e3, e4⟩ := err_none h0
          obtain ⟨k1, k2, k3, k4⟩ := do_clock hok.out h0
          have e3 : z.h ≤ 4611686018427387903 := e3
          have hk0 := hok.out.h0
          have hat : atR d.k z.h = (d.k.at z.h, 0) := by
            unfold atR
            rw [if_neg (by omega), if_neg (by omega)]
          rw [hdrt.out] at k2 k4
          refine ⟨?_, ⟨e2, e3, e4, doS_h h0, ?_⟩, k2, k3, k4⟩
          · rw [k1, ← hbf.out.1, hat]
          · rw [k1]
            exact (hok.out.k.at (h := z.h) (by omega) e3).fits.2.1
        obtain ⟨er, her⟩ : ∃ er, errS d z = er := ⟨_, rfl⟩
        obtain ⟨d', hd'⟩ : ∃ d', (doS d z).1 = d' := ⟨_, rfl⟩
        obtain ⟨O, hO⟩ : ∃ O, (doS d z).2 = O := ⟨_, rfl⟩
        rw [her, hd', hO] at hdoa
        rw [her, hd', hO] at hye0
        rw [her] at hno0
        rw [hd'] at hok2 hcn2
        replace her := hide her
        replace hd' := hide hd'
        replace hO := hide hO
        replace hye0 := hide hye0
        replace hno0 := hide hno0
        replace hok2 := hide hok2
        replace hcn2 := hide hcn2
        go_wp2_with fail
        refine hdoa.out.mono ?_
        rintro _ wb ⟨v, Q2, rfl, hd2, hto2, hs2⟩
        obtain ⟨p9, c9, hv9⟩ := hs2.slice
        subst hv9
        have hb2 : Q2.b = P.b := hto2.b.trans hq.out
        have ht2 := ht.out.step hd2 hto2
        have hrw2 := hrw.out.to hto2
        have hw7b := (hto2.block hw7.out hEn.out).1
        clear hdoa x0 x1 x2 x3 x4 ht hd2 hto2 hw7 hda6 hs2 hrw hap
        go_upto_region 15 with (fail)
        have hwo := heap_alloc_new wb (.cells #[.slice p9 O.sends.length c9, .int .i64 O.clock, .int .i64 O.wake, .int .i64 O.reason] 39)
        have hqo : Mod NoB wb (wb.alloc (.cells #[.slice p9 O.sends.length c9, .int .i64 O.clock, .int .i64 O.wake, .int .i64 O.reason] 39)) := (Mod.refl _ _).alloc _
        generalize wb.alloc (.cells #[.slice p9 O.sends.length c9, .int .i64 O.clock, .int .i64 O.wake, .int .i64 O.reason] 39) = wo at *
        obtain ⟨bo, hbo⟩ : ∃ bo, wb.heap.size = bo := ⟨_, rfl⟩
        rw [hbo] at hwo ⊢
        replace ht2 := ht2.quiet hqo
        replace hrw2 := hrw2.quiet hqo
        replace hw7b := hqo.heap hw7b id
        clear hqo
        have x0 := cell_of_block hw7b 0 (v := .int .i64 z.kind) rfl
        have x1 := cell_of_block hw7b 1 (v := .int .i64 z.h) rfl
        have x3 := cell_of_block hw7b 3 (v := .int .u64 (z.draw : Int)) rfl
        have y1 := cell_of_block hwo 1 (v := .int .i64 O.clock) rfl
        replace ht2 := hide ht2
        replace hrw2 := hide hrw2
        replace hw7b := hide hw7b
        replace hwo := hide hwo
        replace hbo := hide hbo
        by_cases h0 : er = 0
        · obtain ⟨hbfo, ⟨f1, f2, f3, f4, f5⟩, hrt3, hsk, hgap⟩ := hye0.out h0
          subst h0
          subst hbfo
          replace hsk := hide hsk
          replace hgap := hide hgap
          go_upto_region 16 with (fail)
          go_cut [80] (fun s80 wx => ∃ b : Bool, s80 = .bool b ∧ wx = wo)
          case first =>
            by_cases hk0 : z.kind = 0
            · by_cases hd0 : z.draw = 0
              · have hb0 : ((z.draw : Int) != 0) = false := by simp [hd0]
                go_wp2_with fail
                go_meet
                exact ⟨_, rfl, rfl⟩
              · have hb0 : ((z.draw : Int) != 0) = true := by simpa using hd0
                go_wp2_with fail
                go_meet
                exact ⟨_, rfl, rfl⟩
            · have hb0 : (z.kind == 0) = false := by simpa using hk0
              go_wp2_with fail
              go_meet
              exact ⟨_, rfl, rfl⟩
          case rest =>
            obtain ⟨b, rfl, rfl⟩ := hcut
            go_upto_if 80 with (fail)
            go_cut [9] (fun s9 wx => ∃ dr2 : Nat, s9 = .int .u64 dr2 ∧ dr2 < 18446744073709551616 ∧ wx = wc)
            case first =>
              cases b with
              | true =>
                go_wp2_with fail
                go_meet
                exact ⟨z.draw, rfl, iz4, rfl⟩
              | false =>
                go_wp2_with fail
                go_meet
                exact ⟨dr, rfl, hdr.out, rfl⟩
            case rest =>
              obtain ⟨dr2, rfl, hdr2, rfl⟩ := hcut
              replace hdr2 := hide hdr2
              have hlen : CS.length = HS.length := hsa.out.1.symm
              have hlen' := hide hlen
              clear hlen
              go_wp2_with fail
              go_loopw [89] (fun s89 wx => ∃ j : Nat, s89 = .int .i64 j ∧ j ≤ HS.length ∧ Mod NoB wc wx) (fun s89 wx => HS.length - (match s89 with | .int _ i => i.toNat | _ => 0))
              case atStart => exact ⟨0, rfl, Nat.zero_le _, Mod.refl _ _⟩
              case round =>
                obtain ⟨j, rfl, hj, hmj⟩ := hrel
                have hn80' := hn80.out
                have hnh80 : HS.length ≤ 80 := by omega
                have x1r := hmj.cellAt id x1
                have y1r := hmj.cellAt id y1
                by_cases hjn : j < HS.length
                · obtain ⟨hh, hhj⟩ : ∃ hh, HS[j]? = some hh := ⟨HS[j]'(hjn), List.getElem?_eq_getElem (hjn)⟩
                  obtain ⟨cj, hcj⟩ : ∃ cj, CS[j]? = some cj := ⟨CS[j]'(by rw [hlen'.out]; exact hjn), List.getElem?_eq_getElem (by rw [hlen'.out]; exact hjn)⟩
                  obtain ⟨a1, a2, a3, a4⟩ := hsa.out.2 j hh cj hhj hcj
                  obtain ⟨g1, g2, g3, g4, g5, g6⟩ := (hgap.out hh cj a2 a4).1.law hr1 hr2 a1 (by omega) f2
                  obtain ⟨gh, ch', hvh, _, hch⟩ := row_at5 (hrw2.out.quiet hmj).h (by omega)
                  obtain ⟨gc, cc', hvc, _, hcc⟩ := row_at5 (hrw2.out.quiet hmj).c (by rw [hlen'.out]; omega)
                  obtain ⟨rfl, _, rfl⟩ := Value.slice.inj hvh
                  obtain ⟨rfl, _, rfl⟩ := Value.slice.inj hvc
                  have k0 := hch j (.int .i64 hh) (by simp [hhj])
                  have k1 := hcc j (.int .i64 cj) (by simp [hcj])
                  obtain ⟨far, hfar⟩ : ∃ far, z.h - hh = far := ⟨_, rfl⟩
                  rw [hfar] at g1 g2 g4 g5 g6
                  obtain ⟨pt, hpt⟩ : ∃ pt, mulDiv far rt 1000000 = pt := ⟨_, rfl⟩
                  rw [hpt] at g1 g2 g5 g6
                  have hf0 : 0 ≤ far := by omega
                  have hf1 : far ≤ 4611686018427387903 := by omega
                  have wf : IntKind.i64.wrap (z.h - hh) = far := by rw [hfar]; exact wrap_in ⟨by omega, by omega⟩
                  have hmd := hide (fun wx => muldiv_any far rt 1000000 ⟨by omega, by omega⟩ (by omega) (by omega) (by decide) (by decide) divC_mil wx)
                  rw [hpt] at hmd
                  obtain ⟨cd, hcd⟩ : ∃ cd, O.clock - cj = cd := ⟨_, rfl⟩
                  rw [hcd] at g1 g2 g3 g4
                  have hss : satSub O.clock cj = cd := by
                    unfold satSub clamp64
                    rw [hcd, if_neg (by omega), if_neg (by omega)]
                  have hsb := hide (fun wx => ssub_any O.clock cj f5 a3 wx)
                  rw [hss] at hsb
                  have b1 : decide (cd < far - pt - 1) = false := by simp; omega
                  have b2 : decide (far + pt + 1 < cd) = false := by simp; omega
                  have b5 : decide (cd < 0) = false := by simp; omega
                  have w1 : IntKind.i64.wrap (far - pt) = far - pt := wrap_in ⟨by omega, by omega⟩
                  have w2' : IntKind.i64.wrap (far - pt - 1) = far - pt - 1 := wrap_in ⟨by omega, by omega⟩
                  have w3' : IntKind.i64.wrap (far + pt) = far + pt := wrap_in ⟨by omega, by omega⟩
                  have w4' : IntKind.i64.wrap (far + pt + 1) = far + pt + 1 := wrap_in ⟨by omega, by omega⟩
                  have hji : (j : Int) < HS.length := by omega
                  have hjc : (j : Int) < CS.length := by have := hlen'.out; omega
                  have hfar' := hide hfar
                  have hpt' := hide hpt
                  have hcd' := hide hcd
                  clear hfar hpt hcd hvh hvc hch hcc hss a4 x1 y1 g1 g2
                  replace hhj := hide hhj
                  replace hcj := hide hcj
                  replace hmj := hide hmj
                  go_upto_region 23 with (fail)
                  go_quiet (fail)
                  have hmq : Mod NoB wr (wr.drewN nq) := (Mod.refl _ _).drewN _
                  generalize wr.drewN nq = wq at *
                  replace hmj := hide (hmj.out.trans hmq)
                  replace y1r := hmq.cellAt id y1r
                  replace k1 := hmq.cellAt id k1
                  clear hmq x1r k0
                  go_wp2_with fail
                  refine (hmd.out wq).mono ?_
                  rintro _ wv ⟨rfl, hmv⟩
                  replace hmj := hide (hmj.out.trans hmv)
                  have y1v := Since.cell (hmv.cellAt id y1r)
                  have k1v := Since.cell (hmv.cellAt id k1)
                  have hsv := hide (fun (x : Since wv) => Since.call x (fun w' _ => (hsb.out w').mono fun e w'' h => ⟨h.1, h.2 ▸ Mod.refl _ _⟩))
                  clear hmv y1r k1 hmd
                  go_upto_region 25 with (fail)
                  refine wp_region_mod (by kernel_rfl) (by kernel_rfl) ?_
                  repeat (go_big_quiet_step ((go_at_call 28; exact hsv.out _)))
                  refine wpQuiet_nil ?_
                  rintro _ ⟨⟨wu, hmu⟩, rfl⟩
                  replace hmj := hide (hmj.out.trans hmu)
                  clear hmu y1v k1v hsv
                  have hB : (decide (cd < far - pt - 1) = false ∧ decide (far + pt + 1 < cd) = false ∧ decide (cd < 0) = false) ∧ (decide (2 ≤ far) = true → decide (cd < 1) = false) := ⟨⟨b1, b2, b5⟩, fun h => by have := of_decide_eq_true h; simp; omega⟩
                  obtain ⟨q1, hq1⟩ : ∃ q1, far - pt = q1 := ⟨_, rfl⟩
                  obtain ⟨q3, hq3⟩ : ∃ q3, far + pt = q3 := ⟨_, rfl⟩
                  rw [hq1] at w1 w2' hB
                  rw [hq3] at w3' w4' hB
                  obtain ⟨q2, hq2⟩ : ∃ q2, q1 - 1 = q2 := ⟨_, rfl⟩
                  obtain ⟨q4, hq4⟩ : ∃ q4, q3 + 1 = q4 := ⟨_, rfl⟩
                  rw [hq2] at w2' hB
                  rw [hq4] at w4' hB
                  obtain ⟨⟨b1, b2, b5⟩, b6⟩ := hB
                  obtain ⟨t1, ht1⟩ : ∃ t1, decide (2 ≤ far) = t1 := ⟨_, rfl⟩
                  rw [ht1] at b6
                  have v1 : IntKind.i64.wrap (far - pt) = q1 := by rw [hq1]; exact w1
                  have v3 : IntKind.i64.wrap (far + pt) = q3 := by rw [hq3]; exact w3'
                  have v2 : IntKind.i64.wrap (q1 - 1) = q2 := by rw [hq2]; exact w2'
                  have v4 : IntKind.i64.wrap (q3 + 1) = q4 := by rw [hq4]; exact w4'
                  replace hq1 := hide hq1
                  replace hq2 := hide hq2
                  replace hq3 := hide hq3
                  replace hq4 := hide hq4
                  clear w1 w2' w3' w4' wf hsb g3 g4 g5 g6 hf0 hf1
                  cases t1 with
                  | true =>
                    have b4 := b6 rfl
                    clear b6
                    go_wp2_with fail
                    go_roundw
                    case rel => exact ⟨j + 1, rfl, hjn, hmj.out⟩
                    case measure =>
                      show HS.length - ((j : Int) + 1).toNat < HS.length - (j : Int).toNat
                      omega
                  | false =>
                    clear b6
                    go_wp2_with fail
                    go_roundw
                    case rel => exact ⟨j + 1, rfl, hjn, hmj.out⟩
                    case measure =>
                      show HS.length - ((j : Int) + 1).toNat < HS.length - (j : Int).toNat
                      omega
                · have hji : ¬ ((j : Int) < HS.length) := by omega
                  replace ht2 := hide (ht2.out.quiet hmj)
                  replace hrw2 := hide (hrw2.out.quiet hmj)
                  have x1w := hmj.cellAt id x1
                  have y1w := hmj.cellAt id y1
                  have hl1 : HS.length ≤ 100 := by omega
                  have hl2 : CS.length ≤ 100 := by have := hlen'.out; omega
                  have hnl1 := hrw2.out.lt.1
                  have hnl2 := hrw2.out.lt.2
                  have hob := hmj.heap hwo.out id
                  have hev := hmj.heap hw7b.out id
                  have no1 : ¬ (Value.slice ph HS.length ch).ownBlock = some bo := fun e => by
                    obtain ⟨cur, hc⟩ := own_block hrw2.out.h e
                    rw [hob] at hc
                    exact absurd (Obj.cells.inj (Option.some.inj hc)).2.1 (by decide)
                  have no2 : ¬ (Value.slice pc CS.length cc).ownBlock = some bE := fun e => by
                    obtain ⟨cur, hc⟩ := own_block hrw2.out.c e
                    rw [hev] at hc
                    exact absurd (Obj.cells.inj (Option.some.inj hc)).2.1 (by decide)
                  have no3 : ¬ (Value.slice ph HS.length ch).ownBlock = some bE := fun e => by
                    obtain ⟨cur, hc⟩ := own_block hrw2.out.h e
                    rw [hev] at hc
                    exact absurd (Obj.cells.inj (Option.some.inj hc)).2.1 (by decide)
                  have no4 : ¬ (Value.slice pc CS.length cc).ownBlock = some bo := fun e => by
                    obtain ⟨cur, hc⟩ := own_block hrw2.out.c e
                    rw [hob] at hc
                    exact absurd (Obj.cells.inj (Option.some.inj hc)).2.1 (by decide)
                  have nvE := no3
                  have nvO := no1
                  have ncE := no2
                  have ncO := no4
                  have nvL := hnl1
                  have ncL := hnl2
                  clear hmj x1 y1 no1 no2 no3 no4 hnl1 hnl2 x1w y1w
                  go_upto_region 29 with (fail)
                  refine wp_frame frK 151 [10, 11, 139, 140, 141, 142, 143, 144, 145, 146, 147, 148] (fun V z => rfl) _ rfl rfl (fun V hV hputs => ?_)
                  have hV10 : V 10 = .slice ph HS.length ch := (hV.out 10).trans rfl
                  have hV11 : V 11 = .slice pc CS.length cc := (hV.out 11).trans rfl
                  have hV14 : V 14 = at0 bE := (hV.out 14).trans rfl
                  have hV17 : V 17 = at0 bo := (hV.out 17).trans rfl
                  obtain ⟨z1, hz1⟩ : ∃ z1 : EvS, z = z1 := ⟨_, rfl⟩
                  have hE9 := hev
                  have hO9 := hob
                  rw [hz1] at hE9
                  obtain ⟨wd, hwd⟩ : ∃ wd, wr.drew = wd := ⟨_, rfl⟩
                  have hmd : Mod NoB wr wd := hwd ▸ (Mod.refl NoB wr).drew
                  replace hwd := hide hwd
                  have hi0 : InvK w2 Q2 d' HS CS z1.h O.clock (.slice ph HS.length ch) (.slice pc CS.length cc) bE bo _ _ wr.heap.size (fun _ => false) V wd :=
                    ⟨ht2.out.quiet hmd, hmd.size, hmd.heap hE9 id, hmd.heap hO9 id, fun _ => hrw2.out.quiet hmd, fun e => (nomatch e), fun e => (nomatch e), fun e => (nomatch e), fun e => (nomatch e), fun e => (nomatch e), fun e => (nomatch e), fun e => (nomatch e), fun e => (nomatch e), fun e => (nomatch e), fun e => (nomatch e), fun e => (nomatch e), fun e => (nomatch e), fun _ => hV10, fun e => (nomatch e), fun _ => hV11, fun e => (nomatch e), fun e => (nomatch e)⟩
                  replace hi0 := hide hi0
                  refine wp_region_inv (by kernel_rfl) (by kernel_rfl) (fun listed xA wA => ∃ z, xA = frK V z ∧ InvK w2 Q2 d' HS CS z1.h O.clock (.slice ph HS.length ch) (.slice pc CS.length cc) bE bo (.cells #[.int .i64 z1.kind, .int .i64 z1.h, .int .i64 z1.addr, .int .u64 (z1.draw : Int), .slice dp' z1.data.length dc'] 33 (0, 0)) (.cells #[.slice p9 O.sends.length c9, .int .i64 O.clock, .int .i64 O.wake, .int .i64 O.reason] 39 (0, 0)) wr.heap.size (LOf listed) z wA) ?_ ?_ ?_
                  · refine ⟨V, rfl, ?_⟩
                    rw [hwd.out]
                    have hL0 : LOf (Array.replicate 12 false) = fun _ => false := by
                      funext q
                      unfold LOf
                      by_cases hq : q < 12 <;> simp [hq]
                    have := hi0.out
                    rw [← hL0] at this
                    exact this
                  · intro listed xA w1 iA op hsz hI ho hl hpre
                    obtain ⟨z, rfl, hI⟩ := hI
                    have hilt : iA < listed.size := by rw [hsz]; exact (Array.getElem?_eq_some_iff.1 ho).1
                    have hset := LOf_set hilt
                    have hno := lof_no hilt hl
                    match iA, ho with
                    | 0, ho =>
                      refine wpOp_step ho (fun K' hK => ?_)
                      simp only [List.getElem?_toArray, List.getElem?_cons_zero, List.getElem?_cons_succ, Option.some.injEq] at ho
                      subst ho
                      have h10 : LOf listed 10 = false := by
                        cases e : LOf listed 10 with
                        | false => rfl
                        | true => have := (hI.g10 e).1; rw [hno] at this; cases this
                      have q := hI.f10' h10
                      unfold frK
                      go_simp
                      refine hK _ _ ⟨upd z 139 (.slice ph HS.length ch), by simp [frK, upd, hV14, hV17, q], ?_⟩
                      rw [hset]
                      exact hI.op0
                    | 1, ho =>
                      refine wpOp_step ho (fun K' hK => ?_)
                      simp only [List.getElem?_toArray, List.getElem?_cons_zero, List.getElem?_cons_succ, Option.some.injEq] at ho
                      subst ho
                      unfold frK
                      go_simp
                      refine hK _ _ ⟨upd z 140 (.pointer (some ⟨bE, 1, none⟩)), by simp [frK, upd, hV14, hV17], ?_⟩
                      rw [hset]
                      exact hI.op1
                    | 2, ho =>
                      refine wpOp_step ho (fun K' hK => ?_)
                      simp only [List.getElem?_toArray, List.getElem?_cons_zero, List.getElem?_cons_succ, Option.some.injEq] at ho
                      subst ho
                      have q := hI.f1 (pre_of hpre 1 (by rfl))
                      have y := cell_of_block hI.e 1 (v := .int .i64 z1.h) rfl
                      unfold frK
                      go_simp
                      refine hK _ _ ⟨upd z 141 (.int .i64 z1.h), by simp [frK, upd, hV14, hV17, q], ?_⟩
                      rw [hset]
                      exact hI.op2
                    | 3, ho =>
                      refine wpOp_step ho (fun K' hK => ?_)
                      simp only [List.getElem?_toArray, List.getElem?_cons_zero, List.getElem?_cons_succ, Option.some.injEq] at ho
                      subst ho
                      have q := hI.f2 (pre_of hpre 2 (by rfl))
                      unfold frK
                      go_simp
                      refine hK _ _ ⟨upd z 142 (.slice (some ⟨w1.heap.size, 0, none⟩) 1 1), by simp [frK, upd, hV14, hV17, q], ?_⟩
                      rw [hset]
                      exact hI.op3
                    | 4, ho =>
                      refine wpOp_step ho (fun K' hK => ?_)
                      simp only [List.getElem?_toArray, List.getElem?_cons_zero, List.getElem?_cons_succ, Option.some.injEq] at ho
                      subst ho
                      have h9 : LOf listed 9 = false := by
                        cases e : LOf listed 9 with
                        | false => rfl
                        | true => have := hI.m e; rw [hno] at this; cases this
                      have h10 : ¬ LOf listed 10 = true := fun e => by have := (hI.g10 e).2; rw [hno] at this; cases this
                      have q1 := hI.f0 (pre_of hpre 0 (by rfl))
                      obtain ⟨bb, q2, q3, q4⟩ := hI.f3 (pre_of hpre 3 (by rfl)) hno
                      have hrr := hI.r0 hno
                      refine stepH rfl (.tmp 139) (.tmp 142) rfl hrr hI.one (Mod.refl _ _) (show z 139 = _ from q1) bb (show z 142 = _ from q2) z1.h q4 hl1 ?_
                      intro p' k' w' a1 a2 a3
                      refine hK _ _ ⟨upd z 143 (.slice p' (HS.length + 1) k'), by first | rfl | simp [frK, upd, hV14, hV17], ?_⟩
                      rw [hset]
                      exact hI.op4 h9 a1 a2 a3 nvE nvO nvL h10
                    | 5, ho =>
                      refine wpOp_step ho (fun K' hK => ?_)
                      simp only [List.getElem?_toArray, List.getElem?_cons_zero, List.getElem?_cons_succ, Option.some.injEq] at ho
                      subst ho
                      have h11 : LOf listed 11 = false := by
                        cases e : LOf listed 11 with
                        | false => rfl
                        | true => have := (hI.g11 e).1; rw [hno] at this; cases this
                      have q := hI.f11' h11
                      unfold frK
                      go_simp
                      refine hK _ _ ⟨upd z 144 (.slice pc CS.length cc), by simp [frK, upd, hV14, hV17, q], ?_⟩
                      rw [hset]
                      exact hI.op5
                    | 6, ho =>
                      refine wpOp_step ho (fun K' hK => ?_)
                      simp only [List.getElem?_toArray, List.getElem?_cons_zero, List.getElem?_cons_succ, Option.some.injEq] at ho
                      subst ho
                      unfold frK
                      go_simp
                      refine hK _ _ ⟨upd z 145 (.pointer (some ⟨bo, 1, none⟩)), by simp [frK, upd, hV17, hV14], ?_⟩
                      rw [hset]
                      exact hI.op6
                    | 7, ho =>
                      refine wpOp_step ho (fun K' hK => ?_)
                      simp only [List.getElem?_toArray, List.getElem?_cons_zero, List.getElem?_cons_succ, Option.some.injEq] at ho
                      subst ho
                      have q := hI.f6 (pre_of hpre 6 (by rfl))
                      have y := cell_of_block hI.o 1 (v := .int .i64 O.clock) rfl
                      unfold frK
                      go_simp
                      refine hK _ _ ⟨upd z 146 (.int .i64 O.clock), by simp [frK, upd, hV14, hV17, q], ?_⟩
                      rw [hset]
                      exact hI.op7
                    | 8, ho =>
                      refine wpOp_step ho (fun K' hK => ?_)
                      simp only [List.getElem?_toArray, List.getElem?_cons_zero, List.getElem?_cons_succ, Option.some.injEq] at ho
                      subst ho
                      have q := hI.f7 (pre_of hpre 7 (by rfl))
                      unfold frK
                      go_simp
                      refine hK _ _ ⟨upd z 147 (.slice (some ⟨w1.heap.size, 0, none⟩) 1 1), by simp [frK, upd, hV14, hV17, q], ?_⟩
                      rw [hset]
                      exact hI.op8
                    | 9, ho =>
                      refine wpOp_step ho (fun K' hK => ?_)
                      simp only [List.getElem?_toArray, List.getElem?_cons_zero, List.getElem?_cons_succ, Option.some.injEq] at ho
                      subst ho
                      have h4 := pre_of hpre 4 (by rfl)
                      have h11 : ¬ LOf listed 11 = true := fun e => by have := (hI.g11 e).2; rw [hno] at this; cases this
                      have q1 := hI.f5 (pre_of hpre 5 (by rfl))
                      obtain ⟨bb, q2, q3, q4⟩ := hI.f8 (pre_of hpre 8 (by rfl)) hno
                      obtain ⟨p3, k3, e3, hrr⟩ := hI.r1 h4 hno
                      refine stepH rfl (.tmp 144) (.tmp 147) rfl hrr.symm hI.one (Mod.refl _ _) (show z 144 = _ from q1) bb (show z 147 = _ from q2) O.clock q4 hl2 ?_
                      intro p' k' w' a1 a2 a3
                      refine hK _ _ ⟨upd z 148 (.slice p' (CS.length + 1) k'), by first | rfl | simp [frK, upd, hV14, hV17], ?_⟩
                      rw [hset]
                      exact hI.op9 hno h4 a1.symm a2 a3 ncE ncO ncL h11
                    | 10, ho =>
                      refine wpOp_step ho (fun K' hK => ?_)
                      simp only [List.getElem?_toArray, List.getElem?_cons_zero, List.getElem?_cons_succ, Option.some.injEq] at ho
                      subst ho
                      have hp := And.intro (pre_of hpre 0 (by rfl)) (pre_of hpre 4 (by rfl))
                      unfold frK
                      go_simp
                      refine hK _ _ ⟨upd z 10 (z 143), by simp [frK, upd, hV14, hV17], ?_⟩
                      rw [hset]
                      exact hI.op10 hp
                    | 11, ho =>
                      refine wpOp_step ho (fun K' hK => ?_)
                      simp only [List.getElem?_toArray, List.getElem?_cons_zero, List.getElem?_cons_succ, Option.some.injEq] at ho
                      subst ho
                      have hp := And.intro (pre_of hpre 5 (by rfl)) (pre_of hpre 9 (by rfl))
                      unfold frK
                      go_simp
                      refine hK _ _ ⟨upd z 11 (z 148), by simp [frK, upd, hV14, hV17], ?_⟩
                      rw [hset]
                      exact hI.op11 hp
                  · intro listed xA w1 hsz hall hI
                    obtain ⟨z, rfl, hI⟩ := hI
                    have hA : ∀ i, i < 12 → LOf listed i = true := fun i hi => by
                      have := hall i hi
                      unfold LOf
                      have h12 : i < listed.size := by rw [hsz]; exact hi
                      simpa [h12] using this
                    obtain ⟨p1, k1, p2, k2, e1, e2, hrN⟩ := hI.r2 (hA 9 (by decide))
                    have e10 := (hI.f10 (hA 10 (by decide))).trans e1
                    have e11 := (hI.f11 (hA 11 (by decide))).trans e2
                    have hoN := hide hI.one
                    rw [e1, e2] at hrN
                    replace hrN := hide hrN
                    rw [hputs.out]
                    simp only [putsZ, List.foldl_cons, List.foldl_nil, List.setIfInBounds_toArray, List.set_cons_succ, List.set_cons_zero, e10, e11]
                    clear hI hA hall e1 e2 e10 e11 hV10 hV11 hV14 hV17 hV hputs hi0
                    subst hz1
                    go_wp2_with fail
                    go_roundw
                    case rel => exact ⟨k + 1, dr2, Q2, d', HS ++ [_], CS ++ [O.clock], p1, p2, k1, k2, rfl, rfl, by rw [List.length_append]; rfl, by rw [List.length_append]; rfl, hkn, hdr2.out, hb2, hok2.out, hcn2.out, hrt3, hoN.out, hsa.out.snoc f1 (Int.le_of_eq f4.symm) f5 hsk.out (by rw [f4]; exact f3) (fun h1 c1 a b => (hgap.out h1 c1 a b).2), by rw [List.length_append]; show HS.length + 1 ≤ k + 1; omega, by rw [List.length_append, List.length_append]; exact hrN.out⟩
                    case measure =>
                      show n - ((k : Int) + 1).toNat < n - (k : Int).toNat
                      omega
        · have hb0 : (er != 0) = true := by simpa using h0
          have hdd : d' = d := by rw [← hd'.out, hno0.out h0]
          replace hdd := hide hdd
          go_wp2_with fail
          go_roundw
          case rel => exact ⟨k + 1, dr, Q2, d', HS, CS, ph, pc, ch, cc, rfl, rfl, rfl, rfl, hkn, hdr.out, hb2, hok2.out, hcn2.out, by rw [hdd.out]; exact hdrt.out, ht2.out, by rw [hdd.out]; exact hsa.out, by omega, hrw2.out⟩
          case measure =>
            show n - ((k : Int) + 1).toNat < n - (k : Int).toNat
            omega
      · have hkf : ¬ ((k : Int) < n) := by omega
        have hmz := hide (hm1.out.trans ht.old)
        replace ht := hide ht
        clear hm3
        go_wp2_with fail
        refine (hal.out _ hmz.out).mono ?_
        rintro e w8 ⟨rfl, hm8⟩
        replace hmz := hide (hmz.out.trans hm8)
        clear hm8
        go_wp2_with fail
        go_ret
        exact ⟨rfl, hmz.out⟩
end Go.Proofs.YtjlilmonpklghaaGreatDoor.daemonClock
