/- Package slew (contracts). Package slew: Read, Slewed, Adjust (contracts). Package count: counts, but for their text, as contracts on the block that holds them. A daemon's blocks; what may turn of it. -/
import Derived.Test.YtpjfiplejhbdfaaGreatDoorPUag
import Derived.StillTailTactics
import Derived.Test.YtpjfiplejhbdfaaGreatDoorPUaa
import Derived.Test.YtpjfiplejhbdfaaGreatDoorPUaq
import Derived.Test.YtpjfiplejhbdfaaGreatDoorPUar
import Derived.Test.YtpjfiplejhbdfaaGreatDoorPUat
namespace Go.Proofs.YtpjfiplejhbdfaaGreatDoor
open Go.RowKit

/-- Block b holds a clock. -/
def KO (w : World) (b : Nat) (k : ClockS) : Prop :=
  w.heap[b]? = some (.cells #[.int .i64 k.h, .int .i64 k.c, .int .i64 k.left, .int .i64 k.all, .int .i64 k.rate] 166 (0, 0))
theorem KO.heap {S : Nat → Prop} {w w' : World} {b : Nat} {k : ClockS} (h : KO w b k) (hm : Mod S w w') (hb : ¬ S b) : KO w' b k := hm.heap h hb
abbrev stateV (h c l a : Int) : Value := .agg #[.int .i64 h, .int .i64 c, .int .i64 l, .int .i64 a]
def newBad (h c ppm : Int) : Bool := decide (h < 0 ∨ 4611686018427387903 < h ∨ c < -2305843009213693952 ∨ 2305843009213693952 < c ∨ ppm < 1 ∨ 500 < ppm)
theorem knew_any (h c ppm : Int) (w : World) :
    Calls Tryz.prog 36 #[.int .i64 h, .int .i64 c, .int .i64 ppm] w fun e w' =>
      if newBad h c ppm then e = .returned (.tuple #[.pointer none, .int .i64 3]) ∧ w = w'
      else e = .returned (.tuple #[at0 w.heap.size, .int .i64 0]) ∧ KO w' w.heap.size ⟨h, c, 0, 0, ppm⟩ ∧ Mod NoB w w' := by
  by_cases hb : newBad h c ppm = true
  · simp only [hb, if_true]
    unfold newBad at hb
    replace hb := of_decide_eq_true hb
    go_enter Tryz.func36, Tryz.ntmps36
    go_wp2_with fail
    all_goals first
      | (go_ret2
         exact ⟨rfl, rfl⟩)
      | (exfalso; omega)
  · simp only [hb, if_false, Bool.false_eq_true]
    unfold newBad at hb
    have hb2 : 0 ≤ h ∧ h ≤ 4611686018427387903 ∧ -2305843009213693952 ≤ c ∧ c ≤ 2305843009213693952 ∧ 1 ≤ ppm ∧ ppm ≤ 500 := by
      have hb3 : ¬ (h < 0 ∨ 4611686018427387903 < h ∨ c < -2305843009213693952 ∨ 2305843009213693952 < c ∨ ppm < 1 ∨ 500 < ppm) := fun x => hb (decide_eq_true x)
      omega
    obtain ⟨b1, b2, b3, b4, b5, b6⟩ := hb2
    clear hb
    go_enter Tryz.func36, Tryz.ntmps36
    go_wp2_with fail
    all_goals first
      | (go_ret2
         exact ⟨rfl, heap_alloc_new _ _, (Mod.refl _ _).alloc _⟩)
      | (exfalso; omega)
/-- What there is at a reading. -/
def atR (k : ClockS) (h : Int) : ClockS × Int := if 4611686018427387903 < h then (⟨0, 0, 0, 0, k.rate⟩, 3) else if h < k.h then (⟨0, 0, 0, 0, k.rate⟩, 8) else (k.at h, 0)
set_option maxRecDepth 100000 in
set_option maxHeartbeats 4000000 in
theorem kat_any (b : Nat) (k : ClockS) (hk : k.Ok) (h : Int) (hh : I64 h) (w : World) (hb : KO w b k) :
    Calls Tryz.prog 123 #[at0 b, .int .i64 h] w fun e w' =>
      e = .returned (.tuple #[stateV (atR k h).1.h (atR k h).1.c (atR k h).1.left (atR k h).1.all, .int .i64 (atR k h).2]) ∧ Mod NoB w w' := by
  have hlt := lt_of_block hb
  obtain ⟨f1, f2, f3, f4⟩ := hk.fits
  have hb2 : ∀ o, (w.alloc o).heap[b]? = some (.cells #[.int .i64 k.h, .int .i64 k.c, .int .i64 k.left, .int .i64 k.all, .int .i64 k.rate] 166 (0, 0)) := fun o => (heap_alloc_old hlt o).trans hb
  have q0 : ∀ o, (w.alloc o).cell? ⟨b, 0, none⟩ = some (.int .i64 k.h) := fun o => cell_of_block (hb2 o) 0 rfl
  have q1 : ∀ o, (w.alloc o).cell? ⟨b, 1, none⟩ = some (.int .i64 k.c) := fun o => cell_of_block (hb2 o) 1 rfl
  have q2 : ∀ o, (w.alloc o).cell? ⟨b, 2, none⟩ = some (.int .i64 k.left) := fun o => cell_of_block (hb2 o) 2 rfl
  have q3 : ∀ o, (w.alloc o).cell? ⟨b, 3, none⟩ = some (.int .i64 k.all) := fun o => cell_of_block (hb2 o) 3 rfl
  have q4 : ∀ o, (w.alloc o).cell? ⟨b, 4, none⟩ = some (.int .i64 k.rate) := fun o => cell_of_block (hb2 o) 4 rfl
  clear hb2
  by_cases h1 : 4611686018427387903 < h
  · have e : atR k h = (⟨0, 0, 0, 0, k.rate⟩, 3) := if_pos h1
    rw [e]
    clear e
    replace hb := hide hb
    go_enter Tryz.func123, Tryz.ntmps123
    go_wp2_with fail
    exact bodyPost_ret (v := .tuple #[stateV 0 0 0 0, .int .i64 3]) (by simp [results, Tryz.results123, go_sem]) rfl ⟨rfl, (Mod.refl _ _).alloc _⟩
  by_cases h2 : h < k.h
  · have e : atR k h = (⟨0, 0, 0, 0, k.rate⟩, 8) := by unfold atR; rw [if_neg h1, if_pos h2]
    rw [e]
    clear e
    replace hb := hide hb
    go_enter Tryz.func123, Tryz.ntmps123
    go_wp2_with fail
    exact bodyPost_ret (v := .tuple #[stateV 0 0 0 0, .int .i64 8]) (by simp [results, Tryz.results123, go_sem]) rfl ⟨rfl, (Mod.refl _ _).alloc _⟩
  have e : atR k h = (k.at h, 0) := by unfold atR; rw [if_neg h1, if_neg h2]
  rw [e]
  clear e
  have h3 : k.h ≤ h := by omega
  have h4 : h ≤ 4611686018427387903 := by omega
  obtain ⟨g1, g2, g3, g4⟩ := (hk.at h3 h4).fits
  have hroom := room_le (d := h - k.h) (by have := hk.h0; omega) (by have := hk.h0; omega) hk.r0 hk.r1
  have kh0 := hk.h0
  have m1 := hide (muldiv_any (h - k.h) k.rate 1000000 ⟨by omega, by omega⟩ (by have := hk.r0; omega) (by have := hk.r1; omega) (by decide) (by decide) divC_mil)
  have m2 := hide (clamp_any k.left (-roomOf k h) (roomOf k h))
  have v1 : wrap64 (h - k.h) = h - k.h := by rw [wrap64_eq, wrap_in ⟨by omega, by omega⟩]
  have v2 : wrap64 (-roomOf k h) = -roomOf k h := by unfold roomOf; rw [wrap64_eq, wrap_in ⟨by omega, by omega⟩]
  have v3 : wrap64 (wrap64 (k.c + (h - k.h)) + stepOf k h) = (k.at h).c := by
    have hx : wrap64 ((k.at h).c) = (k.at h).c := by rw [wrap64_eq, wrap_in g2]
    rw [← hx]
    show _ = wrap64 (k.c + (h - k.h) + stepOf k h)
    unfold wrap64
    omega
  have v4 : wrap64 (k.left - stepOf k h) = (k.at h).left := by
    rw [wrap64_eq, show k.left - stepOf k h = (k.at h).left from rfl, wrap_in g3]
  have v5 : wrap64 (k.all + stepOf k h) = (k.at h).all := by
    rw [wrap64_eq, show k.all + stepOf k h = (k.at h).all from rfl, wrap_in g4]
  have hd : mulDiv (h - k.h) k.rate 1000000 = roomOf k h := rfl
  have hs : clampTo k.left (-roomOf k h) (roomOf k h) = stepOf k h := rfl
  rw [hd] at m1
  rw [hs] at m2
  have eh : (k.at h).h = h := rfl
  rw [eh]
  clear hd hs hroom eh g1 g2 g3 g4 f1 f2 f3 f4
  generalize (k.at h).c = rc at *
  generalize (k.at h).left = rl at *
  generalize (k.at h).all = ra at *
  generalize stepOf k h = st at *
  generalize roomOf k h = rm at *
  have h1' : ¬ (4611686018427387903 < h) := h1
  replace hb := hide hb
  have hmr : Mod NoB w (w.alloc (.cells #[.int .i64 0, .int .i64 0, .int .i64 0, .int .i64 0] 164)) := (Mod.refl _ _).alloc _
  obtain ⟨W, hW⟩ : ∃ W, w.alloc (.cells #[.int .i64 0, .int .i64 0, .int .i64 0, .int .i64 0] 164) = W := ⟨_, rfl⟩
  have hres : W.heap[w.heap.size]? = some (.cells #[.int .i64 0, .int .i64 0, .int .i64 0, .int .i64 0] 164 (0, 0)) := hW ▸ heap_alloc_new _ _
  rw [hW] at hmr
  have p0 := hW ▸ q0 (.cells #[.int .i64 0, .int .i64 0, .int .i64 0, .int .i64 0] 164)
  have p1 := hW ▸ q1 (.cells #[.int .i64 0, .int .i64 0, .int .i64 0, .int .i64 0] 164)
  have p2 := hW ▸ q2 (.cells #[.int .i64 0, .int .i64 0, .int .i64 0, .int .i64 0] 164)
  have p3 := hW ▸ q3 (.cells #[.int .i64 0, .int .i64 0, .int .i64 0, .int .i64 0] 164)
  have p4 := hW ▸ q4 (.cells #[.int .i64 0, .int .i64 0, .int .i64 0, .int .i64 0] 164)
  clear q0 q1 q2 q3 q4
  replace hmr := hide hmr
  replace hres := hide hres
  go_enter Tryz.func123, Tryz.ntmps123
  go_wp2_with fail
  refine (m1.out _).mono ?_
  rintro e w2 ⟨rfl, hm2⟩
  have r1 := hm2.cellAt id p1
  have r2 := hm2.cellAt id p2
  have r3 := hm2.cellAt id p3
  clear p0 p1 p2 p3 p4
  replace hres := hide (hm2.heap hres.out id)
  replace hmr := hide (hmr.out.trans hm2)
  clear hm2
  go_wp2_with fail
  refine (m2.out _).mono ?_
  rintro e w3 ⟨rfl, rfl⟩
  go_wp2_with fail
  clear hW
  go_still_tail 25, (by kernel_rfl)
  change wpList _ _ _ _ _ w2.drew
  replace hmr := hide hmr.out.drew
  have hres2 : w2.drew.heap[w.heap.size]? = some (.cells #[.int .i64 0, .int .i64 0, .int .i64 0, .int .i64 0] 164 (0, 0)) := hres.out
  clear hres r1 r2 r3
  generalize w2.drew = w3 at *
  have k0 := cell_of_block hres2 0 rfl
  have k1 := cell_of_block hres2 1 rfl
  have k2 := cell_of_block hres2 2 rfl
  have k3 := cell_of_block hres2 3 rfl
  have z0 := frozen_of_block hres2 0
  have z1 := frozen_of_block hres2 1
  have z2 := frozen_of_block hres2 2
  have z3 := frozen_of_block hres2 3
  have hset := hide (heap_setCell_eq (heap_setCell_eq (heap_setCell_eq (heap_setCell_eq hres2 (o := 0) (.int .i64 h)) (o := 1) (.int .i64 rc)) (o := 2) (.int .i64 rl)) (o := 3) (.int .i64 ra))
  replace hres2 := hide hres2
  have hmf : Mod NoB w ((((w3.setCell ⟨w.heap.size, 0, none⟩ (.int .i64 h)).setCell ⟨w.heap.size, 1, none⟩ (.int .i64 rc)).setCell ⟨w.heap.size, 2, none⟩ (.int .i64 rl)).setCell ⟨w.heap.size, 3, none⟩ (.int .i64 ra)) :=
    (((hmr.out.setCell (Or.inr (Nat.le_refl _)) _).setCell (Or.inr (Nat.le_refl _)) _).setCell (Or.inr (Nat.le_refl _)) _).setCell (Or.inr (Nat.le_refl _)) _
  replace hmf := hide hmf
  go_wp2_with fail
  simp only [v3, v4, v5]
  replace hset := hset.out
  generalize ((((w3.setCell ⟨w.heap.size, 0, none⟩ (.int .i64 h)).setCell ⟨w.heap.size, 1, none⟩ (.int .i64 rc)).setCell ⟨w.heap.size, 2, none⟩ (.int .i64 rl)).setCell ⟨w.heap.size, 3, none⟩ (.int .i64 ra)) = w4 at *
  have y0 := cell_of_block hset 0 (v := .int .i64 h) (by simp)
  have y1 := cell_of_block hset 1 (v := .int .i64 rc) (by simp)
  have y2 := cell_of_block hset 2 (v := .int .i64 rl) (by simp)
  have y3 := cell_of_block hset 3 (v := .int .i64 ra) (by simp)
  exact bodyPost_ret (v := .tuple #[stateV h rc rl ra, .int .i64 0]) (by simp [results, Tryz.results123, go_sem, y0, y1, y2, y3]) rfl ⟨rfl, hmf.out⟩
end Go.Proofs.YtpjfiplejhbdfaaGreatDoor

namespace Go.Proofs.YtpjfiplejhbdfaaGreatDoor
open Go.RowKit

theorem time_any (h c l a : Int) (w : World) :
    Calls Tryz.prog 82 #[stateV h c l a] w fun e w' => e = .returned (.int .i64 c) ∧ Mod NoB w w' := by
  go_enter Tryz.func82, Tryz.ntmps82
  go_wp2
  go_ret
  exact ⟨rfl, (Mod.refl _ _).alloc _⟩
theorem slewed_any (h c l a : Int) (w : World) :
    Calls Tryz.prog 144 #[stateV h c l a] w fun e w' => e = .returned (.int .i64 a) ∧ Mod NoB w w' := by
  go_enter Tryz.func144, Tryz.ntmps144
  go_wp2
  go_ret
  exact ⟨rfl, (Mod.refl _ _).alloc _⟩
set_option maxRecDepth 100000 in
theorem kask_any (b : Nat) (k : ClockS) (hk : k.Ok) (h : Int) (hh : I64 h) (f : FuncId) (v : Int) (w : World) (hb : KO w b k)
    (hent : ∀ args w, (callFunc f args).run Tryz.prog w = .ok (.enter f args) w)
    (hf : ∀ w', Calls Tryz.prog f #[stateV (atR k h).1.h (atR k h).1.c (atR k h).1.left (atR k h).1.all] w' fun e w'' => e = .returned (.int .i64 v) ∧ Mod NoB w' w'') :
    Calls Tryz.prog 81 #[at0 b, .int .i64 h, .func (.func f) #[] #[]] w fun e w' => e = .returned (.tuple #[.int .i64 v, .int .i64 (atR k h).2]) ∧ Mod NoB w w' := by
  have c1 := hide (kat_any b k hk h hh w hb)
  replace hb := hide hb
  generalize (atR k h).1.h = s0 at *
  generalize (atR k h).1.c = s1 at *
  generalize (atR k h).1.left = s2 at *
  generalize (atR k h).1.all = s3 at *
  generalize (atR k h).2 = er at *
  replace hf := hide hf
  go_enter Tryz.func81, Tryz.ntmps81
  go_wp2_with fail
  refine c1.out.mono ?_
  rintro e w1 ⟨rfl, hm⟩
  replace hm := hide (hm.alloc (.cells #[.int .i64 s0, .int .i64 s1, .int .i64 s2, .int .i64 s3] 164))
  go_wp2_with fail
  refine (hf.out _).mono ?_
  rintro e w2 ⟨rfl, hm2⟩
  replace hm := hide (hm.out.trans hm2)
  clear hm2
  go_wp2
  go_ret2
  exact ⟨rfl, hm.out⟩
theorem kread_any (b : Nat) (k : ClockS) (hk : k.Ok) (h : Int) (hh : I64 h) (w : World) (hb : KO w b k) :
    Calls Tryz.prog 46 #[at0 b, .int .i64 h] w fun e w' => e = .returned (.tuple #[.int .i64 (atR k h).1.c, .int .i64 (atR k h).2]) ∧ Mod NoB w w' := by
  have c1 := hide (kask_any b k hk h hh 82 _ w hb (enters_of Tryz.func82 (by kernel_rfl) rfl) (fun w' => time_any _ _ _ _ w'))
  go_enter Tryz.func46, Tryz.ntmps46
  go_wp2_with fail
  refine c1.out.mono ?_
  rintro e w1 ⟨rfl, hm⟩
  replace hm := hide hm
  go_wp2
  go_ret2
  exact ⟨rfl, hm.out⟩
theorem kslewed_any (b : Nat) (k : ClockS) (hk : k.Ok) (h : Int) (hh : I64 h) (w : World) (hb : KO w b k) :
    Calls Tryz.prog 117 #[at0 b, .int .i64 h] w fun e w' => e = .returned (.tuple #[.int .i64 (atR k h).1.all, .int .i64 (atR k h).2]) ∧ Mod NoB w w' := by
  have c1 := hide (kask_any b k hk h hh 144 _ w hb (enters_of Tryz.func144 (by kernel_rfl) rfl) (fun w' => slewed_any _ _ _ _ w'))
  go_enter Tryz.func117, Tryz.ntmps117
  go_wp2_with fail
  refine c1.out.mono ?_
  rintro e w1 ⟨rfl, hm⟩
  replace hm := hide hm
  go_wp2
  go_ret2
  exact ⟨rfl, hm.out⟩
/-- Adjust, at a reading that may be. -/
theorem kadjust_any (b : Nat) (k : ClockS) (hk : k.Ok) (h v : Int) (h0 : k.h ≤ h) (h1 : h ≤ 4611686018427387903) (w : World) (hb : KO w b k) :
    Calls Tryz.prog 121 #[at0 b, .int .i64 h, .int .i64 v] w fun e w' => e = .returned (.int .i64 0) ∧ KO w' b (k.adjust h v) ∧ Mod (· = b) w w' := by
  have hk0 := hk.h0
  have c1 := kat_any b k hk h ⟨by omega, by omega⟩ w hb
  have e : atR k h = (k.at h, 0) := by unfold atR; rw [if_neg (by omega), if_neg (by omega)]
  rw [e] at c1
  replace c1 := hide c1
  have c2 := hide (clamp_any v (-2305843009213693952) 2305843009213693952)
  have hlt := lt_of_block hb
  replace hb := hide hb
  show Calls _ _ _ _ fun e w' => e = .returned (.int .i64 0) ∧ KO w' b ⟨(k.at h).h, (k.at h).c, clampTo v (-2305843009213693952) 2305843009213693952, (k.at h).all, k.rate⟩ ∧ Mod (· = b) w w'
  have er : (k.at h).rate = k.rate := rfl
  generalize clampTo v (-2305843009213693952) 2305843009213693952 = cl at *
  clear e er
  simp only at c1
  generalize (k.at h).h = s0 at *
  generalize (k.at h).c = s1 at *
  generalize (k.at h).left = s2 at *
  generalize (k.at h).all = s3 at *
  go_enter Tryz.func121, Tryz.ntmps121
  go_wp2_with fail
  refine c1.out.mono ?_
  rintro e w1 ⟨rfl, hm⟩
  have hb1 := hide (hm.heap hb.out id)
  have hlt1 := lt_of_block hb1.out
  have hsz := hm.size
  have hs := hide (heap_alloc_new w1 (.cells #[.int .i64 s0, .int .i64 s1, .int .i64 s2, .int .i64 s3] 164))
  replace hb1 := hide ((heap_alloc_old hlt1 (.cells #[.int .i64 s0, .int .i64 s1, .int .i64 s2, .int .i64 s3] 164)).trans hb1.out)
  replace hm := hide (hm.alloc (.cells #[.int .i64 s0, .int .i64 s1, .int .i64 s2, .int .i64 s3] 164))
  go_wp2_with fail
  refine (c2.out _).mono ?_
  rintro e w2 ⟨rfl, rfl⟩
  generalize w1.alloc (.cells #[.int .i64 s0, .int .i64 s1, .int .i64 s2, .int .i64 s3] 164) = w2 at *
  have k0 := cell_of_block hs.out 0 rfl
  have k1 := cell_of_block hs.out 1 rfl
  have k2 := cell_of_block hs.out 2 rfl
  have k3 := cell_of_block hs.out 3 rfl
  have z2 := frozen_of_block hs.out 2
  have y0 := cell_of_block hb1.out 0 rfl
  have y1 := cell_of_block hb1.out 1 rfl
  have y2 := cell_of_block hb1.out 2 rfl
  have y3 := cell_of_block hb1.out 3 rfl
  have x0 := frozen_of_block hb1.out 0
  have x1 := frozen_of_block hb1.out 1
  have x2 := frozen_of_block hb1.out 2
  have x3 := frozen_of_block hb1.out 3
  have hne : ¬ b = w1.heap.size := by omega
  have hle : w.heap.size ≤ w1.heap.size := hsz
  have hne2 : ¬ w1.heap.size = b := by omega
  go_wp2_with fail
  go_ret
  refine ⟨rfl, ?_, ?_⟩
  · have := heap_setCell_eq (heap_setCell_eq (heap_setCell_eq (heap_setCell_eq ((heap_setCell_ne (a := ⟨w1.heap.size, 2, none⟩) hne (.int .i64 cl)).trans hb1.out) (o := 0) (.int .i64 s0)) (o := 1) (.int .i64 s1)) (o := 2) (.int .i64 cl)) (o := 3) (.int .i64 s3)
    exact this
  · exact (((((hm.out.mono (T := (· = b)) (fun _ _ f => f.elim)).setCell (Or.inr hle) _).set1 _ _).set1 _ _).set1 _ _).set1 _ _
end Go.Proofs.YtpjfiplejhbdfaaGreatDoor

namespace Go.Proofs.YtpjfiplejhbdfaaGreatDoor
open Go.RowKit

/-- Block b holds counts. -/
def CO (w : World) (b : Nat) (c : List Int) : Prop :=
  w.heap[b]? = some (.cells (c.map (Value.int .i64)).toArray 173 (0, 0)) ∧ c.length = 13

/-- No counts: a name, so that the walk leaves it whole. -/
def zero13 : List Int := List.replicate 13 0
theorem CO.heap {S : Nat → Prop} {w w' : World} {b : Nat} {c : List Int} (h : CO w b c) (hm : Mod S w w') (hb : ¬ S b) : CO w' b c := ⟨hm.heap h.1 hb, h.2⟩

theorem CO.cell {w : World} {b : Nat} {c : List Int} (h : CO w b c) (k : Nat) (hk : k < 13) : w.cell? ⟨b, k, none⟩ = some (.int .i64 (c.getD k 0)) := by
  refine cell_of_block h.1 k ?_
  have := h.2
  simp [List.getD, this, hk]

theorem CO.set {w : World} {b : Nat} {c : List Int} (h : CO w b c) (k : Nat) (x : Int) : CO (w.setCell ⟨b, k, none⟩ (.int .i64 x)) b (c.set k x) := by
  refine ⟨?_, by simp [h.2]⟩
  rw [heap_setCell_eq h.1]
  simp

theorem co_new_any (w : World) :
    Calls Tryz.prog 38 #[] w fun e w' => ∃ b, e = .returned (at0 b) ∧ w.heap.size ≤ b ∧ CO w' b zero13 ∧ Mod NoB w w' := by
  go_enter Tryz.func38, Tryz.ntmps38
  go_wp2
  go_ret
  exact ⟨_, rfl, Nat.le_refl _, ⟨heap_alloc_new w _, rfl⟩, (Mod.refl _ _).alloc _⟩

/-- Is there such a reason? -/
def inB (n : Int) : Bool := decide (0 ≤ n) && decide (n < 13)

theorem co_known_any (n : Int) (hn : I64 n) (w : World) :
    Calls Tryz.prog 122 #[.int .i64 n] w fun e w' => e = .returned (.bool (inB n)) ∧ w = w' := by
  obtain ⟨h1, h2⟩ := hn
  go_enter Tryz.func122, Tryz.ntmps122
  go_wp2
  all_goals
    go_ret
    refine ⟨bool_ret ?_, rfl⟩
    unfold inB
    simp
    try omega

/-! ### Add -/
theorem co_add_any (b k : Nat) (c : List Int) (w : World) (h : CO w b c) (hk : k < 13) (h0 : 0 ≤ c.getD k 0) (h1 : c.getD k 0 ≤ 9007199254740992) :
    Calls Tryz.prog 80 #[at0 b, .int .i64 k] w fun e w' =>
      e = .returned (.int .i64 0) ∧ CO w' b (c.set k (c.getD k 0 + 1)) ∧ Mod (· = b) w w' := by
  have hc := h.cell k hk
  have hf := frozen_of_block h.1 k
  replace h := hide h
  have ht : inB k = true := by unfold inB; simp; omega
  generalize c.getD k 0 = x at hc h0 h1 ⊢
  go_enter Tryz.func80, Tryz.ntmps80
  go_wp2_with fail
  refine (co_known_any _ ⟨by omega, by omega⟩ _).mono ?_
  rintro e w' ⟨rfl, rfl⟩
  go_wp2_with fail
  go_region
  all_goals
    go_wp2
    go_ret
    exact ⟨rfl, h.out.set k _, ((Mod.refl _ _).set1 _ _).drew⟩

end Go.Proofs.YtpjfiplejhbdfaaGreatDoor

namespace Go.Proofs.YtpjfiplejhbdfaaGreatDoor
set_option linter.unusedSimpArgs false
open Go.RowKit

/-- An object's type. -/
def tyOf : Obj → Option TypeId
  | .cells _ t _ => some t
  | _ => none
/-- A set of blocks, each from lo on, of some types alone. -/
def Only (T : List (Option TypeId)) (lo : Nat) (w : World) (S : Nat → Prop) : Prop := ∀ k, S k → lo ≤ k ∧ ∀ o, w.heap[k]? = some o → tyOf o ∈ T
theorem Mod.keep {S : Nat → Prop} {w w' : World} (hm : Mod S w w') {T : List (Option TypeId)} {lo : Nat} (hS : Only T lo w S) {k : Nat} {o : Obj} (h : w.heap[k]? = some o) (hn : tyOf o ∉ T) : w'.heap[k]? = some o :=
  hm.heap h (fun s => hn ((hS k s).2 o h))
theorem Mod.keepc {S : Nat → Prop} {w w' : World} (hm : Mod S w w') {T : List (Option TypeId)} {lo : Nat} (hS : Only T lo w S) {k : Nat} {c : Array Value} {t : TypeId} {f : Nat × Nat} (h : w.heap[k]? = some (.cells c t f)) (hn : some t ∉ T) : w'.heap[k]? = some (.cells c t f) :=
  hm.keep hS h hn
theorem only_nob (w : World) (lo : Nat) : Only [] lo w NoB := fun _ h => h.elim
theorem only_one {T : List (Option TypeId)} {lo b : Nat} {w : World} {o : Obj} (h : w.heap[b]? = some o) (hl : lo ≤ b) (ht : tyOf o ∈ T) : Only T lo w (· = b) := by
  rintro k rfl
  exact ⟨hl, fun o' ho => by rw [h] at ho; cases ho; exact ht⟩
theorem only_or {T : List (Option TypeId)} {lo : Nat} {w : World} {S S' : Nat → Prop} (h : Only T lo w S) (h' : Only T lo w S') : Only T lo w (fun k => S k ∨ S' k) := fun k hk => hk.elim (h k) (h' k)
abbrev tDmn : Option TypeId := some 100
abbrev tClk : Option TypeId := some 166
abbrev tPeer : Option TypeId := some 180
abbrev tBk : Option TypeId := some 239
abbrev tSto : Option TypeId := some 187
abbrev tRing : Option TypeId := some 242
abbrev tSmp : Option TypeId := some 185
abbrev tQue : Option TypeId := some 169
abbrev tCnt : Option TypeId := some 173
abbrev tVote : Option TypeId := some 257
abbrev tPP : Option TypeId := some 101
abbrev tPS : Option TypeId := some 104

/-- Where a daemon lies. -/
structure DPl where
  b : Nat
  bk : Nat
  sp : Option Addr
  sc : Nat
  pv : Value
  pbs : List (Nat × Nat)
  sv : Value
  ss : List StP
  bq : Nat
  bqm : Nat
  bc : Nat
  vv : Value
  lo : Nat
/-- A daemon lies so. -/
structure DO (w : World) (P : DPl) (d : DaemonS) : Prop where
  blk : w.heap[P.b]? = some (.cells #[.slice P.sp d.c.srv.length P.sc, .int .i64 d.c.q, .int .i64 d.c.l, .int .i64 d.c.m, .int .i64 d.c.d, .int .i64 d.c.s, at0 P.bk, P.pv, P.sv, at0 P.bq, at0 P.bc, .int .u64 (d.draw : Int), .int .i64 d.h, .int .i64 d.theta, P.vv, .int .i64 d.chosen] 100 (0, 0))
  srv : IntsL w P.sp d.c.srv
  srvl : ∀ g off, P.sp = some ⟨g, off, none⟩ → g < P.lo
  clk : KO w P.bk d.k
  prow : w.ownsRow 0 101 1 P.pv P.pbs.length (P.pbs.map fun x => at0 x.1)
  pn : P.pbs.length = d.ps.length
  peer : ∀ (i : Nat) (x : Nat × Nat) (p : PeerS), P.pbs[i]? = some x → d.ps[i]? = some p → PeerO w x.1 x.2 p
  pinj : P.pbs.Pairwise fun x y => x.1 ≠ y.1 ∧ x.2 ≠ y.2
  plo : ∀ x ∈ P.pbs, P.lo ≤ x.1 ∧ P.lo ≤ x.2
  srow : w.ownsRow 0 104 1 P.sv P.ss.length (P.ss.map fun s => at0 s.b)
  sxs : P.ss.map (·.xs) = d.ss
  store : ∀ s ∈ P.ss, StoreO w s.b s.rb s.sl s.xs
  sinj : P.ss.Pairwise fun x y => x.b ≠ y.b ∧ x.rb ≠ y.rb ∧ ∀ g, x.sl.ownBlock = some g → y.sl.ownBlock ≠ some g
  slo : ∀ s ∈ P.ss, P.lo ≤ s.b ∧ P.lo ≤ s.rb ∧ ∀ g, s.sl.ownBlock = some g → P.lo ≤ g
  que : ∃ L, QO w P.bq P.bqm L ∧ L.length = d.ps.length
  cnt : CO w P.bc d.n
  vrow : w.ownsRow 0 257 6 P.vv d.votes.length (vcells d.votes)
  los : P.lo ≤ P.b ∧ P.lo ≤ P.bk ∧ P.lo ≤ P.bq ∧ P.lo ≤ P.bqm ∧ P.lo ≤ P.bc
  lts : P.lo ≤ w.heap.size
theorem ownsRow_keep {S : Nat → Prop} {w w' : World} (hm : Mod S w w') {T : List (Option TypeId)} {lo : Nat} (hS : Only T lo w S) {base size n : Nat} {e : TypeId} {v : Value} {xs : List Value} (h : w.ownsRow base e size v n xs) (hn : some e ∉ T) : w'.ownsRow base e size v n xs := by
  refine ⟨h.1, ?_⟩
  rcases h.2 with h0 | ⟨g, cap, cur, rfl, hb2, hg, r⟩
  · exact Or.inl h0
  · exact Or.inr ⟨g, cap, cur, rfl, hb2, hm.keep hS hg hn, r⟩
theorem IntsL.keep {S : Nat → Prop} {w w' : World} (hm : Mod S w w') {T : List (Option TypeId)} {lo : Nat} (hS : Only T lo w S) {p : Option Addr} {xs : List Int} (h : IntsL w p xs) (hl : ∀ g off, p = some ⟨g, off, none⟩ → g < lo) : IntsL w' p xs :=
  h.mod hm (fun g off hp s => by have := hl g off hp; have := (hS g s).1; omega)
theorem PeerO.keep {S : Nat → Prop} {w w' : World} (hm : Mod S w w') {T : List (Option TypeId)} {lo : Nat} (hS : Only T lo w S) {b bk : Nat} {p : PeerS} (h : PeerO w b bk p) (h1 : tPeer ∉ T) (h2 : tBk ∉ T) : PeerO w' b bk p :=
  ⟨hm.keep hS h.pb h1, let ⟨t, ht⟩ := h.bo; ⟨t, hm.keep hS ht h2⟩⟩
theorem StoreO.keep {S : Nat → Prop} {w w' : World} (hm : Mod S w w') {T : List (Option TypeId)} {lo : Nat} (hS : Only T lo w S) {b rb : Nat} {sl : Value} {xs : List SampleS} (h : StoreO w b rb sl xs) (h1 : tSto ∉ T) (h2 : tRing ∉ T) (h3 : tSmp ∉ T) : StoreO w' b rb sl xs :=
  ⟨hm.keep hS h.blk h1, ⟨let ⟨c, hc, hb⟩ := h.ring.blk; ⟨c, hc, hm.keep hS hb h2⟩, ownsRow_keep hm hS h.ring.row h3⟩⟩
theorem QO.keep {S : Nat → Prop} {w w' : World} (hm : Mod S w w') {T : List (Option TypeId)} {lo : Nat} (hS : Only T lo w S) {b bm : Nat} {L : List (Int × Int)} (h : QO w b bm L) (h1 : tQue ∉ T) (h2 : none ∉ T) : QO w' b bm L :=
  ⟨let ⟨n, hn⟩ := h.blk; ⟨n, hm.keep hS hn h1⟩, hm.keep hS h.map h2⟩
/-- The parts of a daemon but its own block, peers, stores. -/
structure DRest (w w' : World) (P : DPl) (d : DaemonS) (T : List (Option TypeId)) : Prop where
  blk : tDmn ∉ T → w'.heap[P.b]? = w.heap[P.b]?
  srv : IntsL w' P.sp d.c.srv
  clk : tClk ∉ T → KO w' P.bk d.k
  prow : tPP ∉ T → w'.ownsRow 0 101 1 P.pv P.pbs.length (P.pbs.map fun x => at0 x.1)
  peer : tPeer ∉ T → tBk ∉ T → ∀ (i : Nat) (x : Nat × Nat) (p : PeerS), P.pbs[i]? = some x → d.ps[i]? = some p → PeerO w' x.1 x.2 p
  srow : tPS ∉ T → w'.ownsRow 0 104 1 P.sv P.ss.length (P.ss.map fun s => at0 s.b)
  store : tSto ∉ T → tRing ∉ T → tSmp ∉ T → ∀ s ∈ P.ss, StoreO w' s.b s.rb s.sl s.xs
  que : tQue ∉ T → none ∉ T → ∃ L, QO w' P.bq P.bqm L ∧ L.length = d.ps.length
  cnt : tCnt ∉ T → CO w' P.bc d.n
  vrow : tVote ∉ T → w'.ownsRow 0 257 6 P.vv d.votes.length (vcells d.votes)
  lts : P.lo ≤ w'.heap.size
theorem DO.rest {w w' : World} {P : DPl} {d : DaemonS} (h : DO w P d) {S : Nat → Prop} {T : List (Option TypeId)} (hm : Mod S w w') (hS : Only T P.lo w S) : DRest w w' P d T :=
  ⟨fun hn => (hm.keepc hS h.blk hn).trans h.blk.symm, IntsL.keep hm hS h.srv h.srvl, fun hn => hm.keepc hS h.clk hn, fun hn => ownsRow_keep hm hS h.prow hn, fun h1 h2 i x p hx hp => PeerO.keep hm hS (h.peer i x p hx hp) h1 h2,
   fun hn => ownsRow_keep hm hS h.srow hn, fun h1 h2 h3 s hs => StoreO.keep hm hS (h.store s hs) h1 h2 h3, fun h1 h2 => let ⟨L, hq, hl⟩ := h.que; ⟨L, QO.keep hm hS hq h1 h2, hl⟩, fun hn => ⟨hm.keepc hS h.cnt.1 hn, h.cnt.2⟩,
   fun hn => ownsRow_keep hm hS h.vrow hn, Nat.le_trans h.lts hm.size⟩
/-- What changes nothing old changes no daemon. -/
theorem DO.quiet {w w' : World} {P : DPl} {d : DaemonS} (h : DO w P d) (hm : Mod NoB w w') : DO w' P d := by
  have r := h.rest hm (only_nob w P.lo)
  exact ⟨(r.blk (by simp)).trans h.blk, r.srv, h.srvl, r.clk (by simp), r.prow (by simp), h.pn, r.peer (by simp) (by simp), h.pinj, h.plo, r.srow (by simp), h.sxs, r.store (by simp) (by simp) (by simp), h.sinj, h.slo, r.que (by simp) (by simp), r.cnt (by simp), r.vrow (by simp), h.los, r.lts⟩
/-- Another clock. -/
theorem DO.clock {w w' : World} {P : DPl} {d : DaemonS} (h : DO w P d) {k : ClockS} (hm : Mod (· = P.bk) w w') (hk : KO w' P.bk k) : DO w' P { d with k := k } := by
  have r := h.rest hm (T := [tClk]) (only_one h.clk h.los.2.1 (List.mem_singleton.2 rfl))
  exact ⟨(r.blk (by decide)).trans h.blk, r.srv, h.srvl, hk, r.prow (by decide), h.pn, r.peer (by decide) (by decide), h.pinj, h.plo, r.srow (by decide), h.sxs, r.store (by decide) (by decide) (by decide), h.sinj, h.slo, r.que (by decide) (by decide), r.cnt (by decide), r.vrow (by decide), h.los, r.lts⟩
/-- Other counts. -/
theorem DO.counts {w w' : World} {P : DPl} {d : DaemonS} (h : DO w P d) {n : List Int} (hm : Mod (· = P.bc) w w') (hk : CO w' P.bc n) : DO w' P { d with n := n } := by
  have r := h.rest hm (T := [tCnt]) (only_one h.cnt.1 h.los.2.2.2.2 (List.mem_singleton.2 rfl))
  exact ⟨(r.blk (by decide)).trans h.blk, r.srv, h.srvl, r.clk (by decide), r.prow (by decide), h.pn, r.peer (by decide) (by decide), h.pinj, h.plo, r.srow (by decide), h.sxs, r.store (by decide) (by decide) (by decide), h.sinj, h.slo, r.que (by decide) (by decide), hk, r.vrow (by decide), h.los, r.lts⟩
/-- Another queue. -/
theorem DO.queue {w w' : World} {P : DPl} {d : DaemonS} (h : DO w P d) {L : List (Int × Int)} (hm : Mod (fun j => j = P.bq ∨ j = P.bqm) w w') (hk : QO w' P.bq P.bqm L) (hl : L.length = d.ps.length) : DO w' P d := by
  obtain ⟨L0, hq, _⟩ := h.que
  obtain ⟨nq, hqb⟩ := hq.blk
  have r := h.rest hm (T := [tQue, none]) (only_or (only_one hqb h.los.2.2.1 (List.mem_cons_self ..)) (only_one hq.map h.los.2.2.2.1 (List.mem_cons_of_mem _ (List.mem_singleton.2 rfl))))
  exact ⟨(r.blk (by decide)).trans h.blk, r.srv, h.srvl, r.clk (by decide), r.prow (by decide), h.pn, r.peer (by decide) (by decide), h.pinj, h.plo, r.srow (by decide), h.sxs, r.store (by decide) (by decide) (by decide), h.sinj, h.slo, ⟨L, hk, hl⟩, r.cnt (by decide), r.vrow (by decide), h.los, r.lts⟩
/-- Another peer. -/
theorem DO.peerSet {w w' : World} {P : DPl} {d : DaemonS} (h : DO w P d) {i : Nat} {x : Nat × Nat} {p p' : PeerS} (hx : P.pbs[i]? = some x) (hp : d.ps[i]? = some p) (hm : Mod (fun k => k = x.1 ∨ k = x.2) w w') (hk : PeerO w' x.1 x.2 p') : DO w' P { d with ps := d.ps.set i p' } := by
  have h0 := h.peer i x p hx hp
  obtain ⟨t0, hbo⟩ := h0.bo
  obtain ⟨l1, l2⟩ := h.plo x (List.mem_of_getElem? hx)
  have r := h.rest hm (T := [tPeer, tBk]) (only_or (only_one h0.pb l1 (List.mem_cons_self ..)) (only_one hbo l2 (List.mem_cons_of_mem _ (List.mem_singleton.2 rfl))))
  refine ⟨(r.blk (by decide)).trans h.blk, r.srv, h.srvl, r.clk (by decide), r.prow (by decide), by simp [h.pn], ?_, h.pinj, h.plo, r.srow (by decide), h.sxs, r.store (by decide) (by decide) (by decide), h.sinj, h.slo, by simpa using r.que (by decide) (by decide), r.cnt (by decide), r.vrow (by decide), h.los, r.lts⟩
  intro j y q hy hq
  by_cases e : i = j
  · subst e
    rw [hx] at hy
    cases hy
    have hlt : i < d.ps.length := (List.getElem?_eq_some_iff.1 hp).1
    simp [hlt] at hq
    subst hq
    exact hk
  · have hq2 : d.ps[j]? = some q := by simpa [List.getElem?_set_ne e] using hq
    have hne : y.1 ≠ x.1 ∧ y.2 ≠ x.2 := by
      obtain ⟨hi, hxi⟩ := List.getElem?_eq_some_iff.1 hx
      obtain ⟨hj, hyj⟩ := List.getElem?_eq_some_iff.1 hy
      have hpw := List.pairwise_iff_getElem.1 h.pinj
      rcases Nat.lt_or_gt_of_ne e with hlt | hlt
      · have := hpw i j hi hj hlt
        rw [hxi, hyj] at this
        exact ⟨this.1.symm, this.2.symm⟩
      · have := hpw j i hj hi hlt
        rw [hxi, hyj] at this
        exact this
    have hyo := h.peer j y q hy hq2
    obtain ⟨ty, hby⟩ := hyo.bo
    refine hyo.mod hm ?_ ?_
    · rintro (e1 | e1)
      · exact hne.1 e1
      · have := hyo.pb
        unfold PB at this
        rw [e1, hbo] at this
        exact absurd (Obj.cells.inj (Option.some.inj this)).2.1 (by decide)
    · rintro (e1 | e1)
      · have := h0.pb
        unfold PB at this
        rw [← e1, hby] at this
        exact absurd (Obj.cells.inj (Option.some.inj this)).2.1 (by decide)
      · exact hne.2 e1
end Go.Proofs.YtpjfiplejhbdfaaGreatDoor

