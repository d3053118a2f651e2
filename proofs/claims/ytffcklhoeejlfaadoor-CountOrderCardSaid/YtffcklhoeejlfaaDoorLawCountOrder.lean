/- In whatever order reasons come, counts are the same; with one more they are not. No condition. -/
import Derived.Test.YtffcklhoeejlfaaDoorCoJ
namespace Go.Proofs.YtffcklhoeejlfaaDoor.countOrder
open Go.ChangeShapes Go.WideShapes Go.ChangeAt Go.RowKit Go.Proofs.YtffcklhoeejlfaaDoor
set_option linter.unusedVariables false

set_option maxHeartbeats 8000000 in
theorem walk (x : Option Addr) (n cap : Nat) (hn : n ≤ cap) (hcap : cap ≤ 9223372036854775807) (Z : Nat → Int) (y : Option Addr) (n2 cap2 : Nat) (hn2 : n2 ≤ cap2) (hcap2 : cap2 ≤ 9223372036854775807) (Y : Nat → Int) (r : Int) (hr1 : 0 ≤ r) (hr2 : r ≤ 255) (w : World) (hZ : IntsAt .u8 w x n Z) (hwf : ∀ j, j < n → 0 ≤ Z j ∧ Z j ≤ 255) (hY : IntsAt .u16 w y n2 Y) (hwf2 : ∀ j, j < n2 → 0 ≤ Y j ∧ Y j ≤ 65535) (hL : Laid w) :
    Calls Tryd.prog 6 #[.slice x n cap, .slice y n2 cap2, .int .u8 r] w fun e w' => e = .returned (.bool true) ∧ Mod NoB w w' := by
  replace hL := hide hL
  replace hZ := hide hZ
  replace hwf := hide hwf
  replace hY := hide hY
  replace hwf2 := hide hwf2
  go_enter Tryd.func6, Tryd.ntmps6
  go_wp2_with fail
  refine (new_any _).mono ?_
  rintro e w1 ⟨b1, rfl, hle1, hb1, hm1⟩
  replace hb1 := hide hb1
  go_wp2_with fail
  refine (new_any _).mono ?_
  rintro e w2 ⟨b2, rfl, hle2, hb2, hm2⟩
  have hlt1 := lt_of_block hb1.out.1
  replace hb1 := hide (hb1.out.heap hm2 id)
  replace hb2 := hide hb2
  replace hm := hide (hm1.trans hm2)
  clear hm1 hm2
  go_wp2_with fail
  refine (alive_any _ (hL.out.mod hm.out)).mono ?_
  rintro e w3 ⟨rfl, hm3⟩
  replace hb1 := hide (hb1.out.heap hm3 id)
  replace hb2 := hide (hb2.out.heap hm3 id)
  replace hm := hide (hm.out.trans hm3)
  clear hm3
  by_cases hn3 : 300 < n ∨ 300 < n2
  · by_cases hn4 : 300 < n
    all_goals
      try (have hn5 : 300 < n2 := by omega)
      clear hn3
      go_wp2_with fail
      refine (alive_any _ (hL.out.mod hm.out)).mono ?_
      rintro e w4 ⟨rfl, hm4⟩
      replace hm := hide (hm.out.trans hm4)
      clear hm4
      go_wp2
      go_ret
      exact ⟨rfl, hm.out⟩
  · have hn4 : ¬ 300 < n := by omega
    have hn5 : ¬ 300 < n2 := by omega
    clear hn3
    have hblt := lt_of_block hb2.out.1
    go_wp2_with (refine wpList_append_bytes rfl _ _ rfl w3.heap.size w3.heap.size (heap_alloc_new _ _) (Nat.le_refl _) x n cap Z rfl rfl ?zz (by omega) ?_)
    case zz => exact (hZ.out.mod (hm.out.alloc _))
    intro g cg w4 hbg hcg hM hm4
    generalize hM0 : (Array.range n).map Z = M0 at hM
    have hMs : M0.size = n := by rw [← hM0]; simp
    replace hM0 := hide hM0
    replace hm := hide (((hm.out.alloc _).into hm4 fun q hq => Or.inr (by have := hm.out.size; omega)))
    replace hb1 := hide ((hb1.out.heap ((Mod.refl NoB w3).alloc _) id).heap hm4 (by omega))
    replace hb2 := hide ((hb2.out.heap ((Mod.refl NoB w3).alloc _) id).heap hm4 (by omega))
    clear hm4
    replace hM := hide hM
    go_wp2_with fail
    go_loopw [43] (fun i wr => ∃ (k : Nat) (M : Array Int), k ≤ n2 ∧ i = .int .i64 k ∧ MO wr g M ∧ M.size = n ∧ M.toList.Perm M0.toList ∧ CO wr b1 zero13 ∧ CO wr b2 zero13 ∧ Mod NoB w wr)
      (fun i _ => n2 - (intOf i).toNat)
    case atStart => exact ⟨0, M0, by omega, rfl, hM.out, hMs, List.Perm.refl _, hb1.out, hb2.out, hm.out⟩
    case round =>
      clear hb1 hb2 hM hm
      obtain ⟨k, M, hk, rfl, hM, hMz, hper, hb1, hb2, hm⟩ := hrel
      replace hper := hide hper
      replace hb1 := hide hb1
      replace hb2 := hide hb2
      by_cases hlt : k < n2
      · obtain ⟨bl, off, rfl, hbl, hcs⟩ := hY.out k hlt
        have hc : wr.cell? ⟨bl, off + k, none⟩ = some (.int .u16 (Y k)) := (hm.below.cell (p := ⟨bl, off + k, none⟩) hbl).trans (hcs k hlt)
        obtain ⟨hy1, hy2⟩ := hwf2.out k hlt
        generalize Y k = yy at hc hy1 hy2
        obtain ⟨q, rfl⟩ := Int.eq_ofNat_of_zero_le hy1
        replace hm := hide hm
        replace hcs := hide hcs
        replace hM := hide hM
        by_cases hn0 : n = 0
        · subst hn0
          go_wp2
          go_roundw
          case rel => exact ⟨k + 1, M, by omega, by go_num, hM.out, hMz, hper.out, hb1.out, hb2.out, hm.out⟩
          case measure => simp [intOf]; omega
        · have hnz : (n : Int) ≠ 0 := by omega
          have hw1 : IntKind.i64.wrap (k : Int) = k := IntWalk.i64_in _ (by omega)
          have hw2 : IntKind.i64.wrap (q : Int) = q := IntWalk.i64_in _ (by omega)
          have hre1 : Int.tmod (k : Int) (n : Int) = ((k % n : Nat) : Int) := Int.ofNat_tmod _ _
          have hre2 : Int.tmod (q : Int) (n : Int) = ((q % n : Nat) : Int) := Int.ofNat_tmod _ _
          go_wp2_with fail
          go_region_with ((fail))
          go_wp2_with fail
          go_simp
          obtain ⟨i, hi, hin⟩ : ∃ i : Nat, (k : Int) % (n : Int) = i ∧ i < n := ⟨k % n, (Int.natCast_emod k n).symm, Nat.mod_lt _ (by omega)⟩
          obtain ⟨j, hj, hjn⟩ : ∃ j : Nat, (q : Int) % (n : Int) = j ∧ j < n := ⟨q % n, (Int.natCast_emod q n).symm, Nat.mod_lt _ (by omega)⟩
          rw [hi, hj]
          have hci := hM.out.cell i (by omega)
          have hcj := hM.out.cell j (by omega)
          have hfr := fun o => hM.out.frozen o
          have hsw := hM.out.swap i j (by omega) (by omega)
          have hfr2 : ∀ o, (wr.setCell ⟨g, i, none⟩ (.int .u8 M[j])).frozen? ⟨g, o, none⟩ = false := fun o => by
            obtain ⟨cur, h1, h2⟩ := hM.out
            exact frozen_of_block (heap_setCell_eq (o := i) h1 _) o
          have hc2 : ∃ v, (wr.setCell ⟨g, i, none⟩ (.int .u8 M[j])).cell? ⟨g, j, none⟩ = some v := by
            obtain ⟨cur, h1, h2⟩ := hM.out
            have hsz : j < (cur.setIfInBounds i (.int .u8 M[j])).size := by
              rw [Array.size_setIfInBounds]
              exact (Array.getElem?_eq_some_iff.mp (h2 j (by omega))).1
            exact ⟨_, cell_of_block (heap_setCell_eq (o := i) h1 _) j (Array.getElem?_eq_getElem hsz)⟩
          obtain ⟨v2, hc2⟩ := hc2
          have hper2 : (M.swap i j (by omega) (by omega)).toList.Perm M0.toList := (Array.Perm.toList (Array.swap_perm _ _)).trans hper.out
          have hsz2 : (M.swap i j (by omega) (by omega)).size = n := by rw [Array.size_swap, hMz]
          generalize M.swap i j (by omega) (by omega) = M2 at hsw hper2 hsz2
          generalize M[i] = vi at hci hsw
          generalize M[j] = vj at hcj hsw hfr2 hc2
          replace hsw := hide hsw
          replace hper2 := hide hper2
          clear hi hj
          clear hw1 hw2 hre1 hre2
          have hmS : Mod (· = g) wr ((wr.setCell ⟨g, i, none⟩ (.int .u8 vj)).setCell ⟨g, j, none⟩ (.int .u8 vi)) := ((Mod.refl _ _).set1 i _).set1 j _
          replace hb1 := hide (hb1.out.heap hmS (by omega))
          replace hb2 := hide (hb2.out.heap hmS (by omega))
          have hwg : w.heap.size ≤ g := by omega
          replace hm := hide (hm.out.into hmS fun q hq => Or.inr (by omega))
          clear hmS
          go_region_with ((fail))
          all_goals
            go_wp2
            go_roundw
            case rel => exact ⟨k + 1, M2, by omega, by go_num, hsw.out, hsz2, hper2.out, hb1.out, hb2.out, hm.out.drew.drew⟩
            case measure => simp [intOf]; omega
      · obtain rfl : k = n2 := by omega
        replace hm := hide hm
        replace hM := hide hM
        have hper' := hide (tally_perm hper.out)
        have hu8 : Hid (∀ q, q < n → ∃ z : Int, M.toList[q]? = some z ∧ ∃ h : q < M.size, M[q] = z ∧ 0 ≤ z ∧ z ≤ 255) := hide (fun q hq => by
          have hq2 : q < M.size := by omega
          refine ⟨M[q], by simp [hq2], hq2, rfl, ?_⟩
          have h1 : M[q] ∈ M.toList := by simp
          have h2 := hper.out.mem_iff.mp h1
          rw [← hM0.out] at h2
          simp at h2
          obtain ⟨p, hp, he⟩ := h2
          rw [← he]
          exact hwf.out p hp)
        clear hper
        go_wp2_with fail
        go_loopw [77] (fun i wr => ∃ k : Nat, k ≤ n ∧ i = .int .i64 k ∧ MO wr g M ∧ CO wr b1 (tally (M0.toList.take k)) ∧ CO wr b2 (tally (M.toList.take k)) ∧ Mod NoB w wr)
          (fun i _ => n - (intOf i).toNat)
        case atStart => exact ⟨0, by omega, rfl, hM.out, hb1.out, hb2.out, hm.out⟩
        case round =>
          clear hb1 hb2 hM hm
          obtain ⟨p, hp, rfl, hM, hb1, hb2, hm⟩ := hrel
          replace hb1 := hide hb1
          replace hb2 := hide hb2
          replace hM := hide hM
          by_cases hlp : p < n
          · obtain ⟨bl, off, rfl, hbl, hcs⟩ := hZ.out p hlp
            have hc : wr.cell? ⟨bl, off + p, none⟩ = some (.int .u8 (Z p)) := (hm.below.cell (p := ⟨bl, off + p, none⟩) hbl).trans (hcs p hlp)
            obtain ⟨hz1, hz2⟩ := hwf.out p hlp
            have hZt : M0.toList[p]? = some (Z p) := by rw [← hM0.out]; simp [hlp]
            have htk := tally_take M0.toList p (Z p) hZt
            generalize Z p = z at hc hz1 hz2 htk hZt
            replace hm := hide hm
            replace hcs := hide hcs
            obtain ⟨i, hi, hi3⟩ : ∃ i : Nat, z % 13 = i ∧ i < 13 := ⟨(z % 13).toNat, by omega, by omega⟩
            rw [hi, Int.toNat_natCast] at htk
            replace htk := hide htk
            have hin := tally_in (M0.toList.take p) i
            have htl : (M0.toList.take p).length ≤ 300 := by simp; omega
            obtain ⟨v, hv, hvs, hve, hv1, hv2⟩ := hu8.out p hlp
            have htk2 := tally_take M.toList p v hv
            obtain ⟨i2, hi2, hi23⟩ : ∃ i : Nat, v % 13 = i ∧ i < 13 := ⟨(v % 13).toNat, by omega, by omega⟩
            rw [hi2, Int.toNat_natCast] at htk2
            replace htk2 := hide htk2
            have hin2 := tally_in (M.toList.take p) i2
            have htl2 : (M.toList.take p).length ≤ 300 := by simp; omega
            replace hin := hide hin
            replace hin2 := hide hin2
            replace htl := hide htl
            replace htl2 := hide htl2
            go_wp2_with fail
            refine (add_any b1 i _ _ hb1.out hi3 hin.out.1 (by have := hin.out; have := htl.out; omega)).mono ?_
            rintro e w5 ⟨rfl, hb1', hm5⟩
            replace hb1 := hide hb1'
            replace hb2 := hide (hb2.out.heap hm5 (by omega))
            replace hM := hide (hM.out.heap hm5 (by omega))
            replace hm := hide (hm.out.into hm5 fun q hq => Or.inr (by omega))
            clear hb1' hm5 hc hi
            have hc2 := hM.out.cell p hvs
            rw [hve] at hc2
            go_wp2_with fail
            refine (add_any b2 i2 _ _ hb2.out hi23 hin2.out.1 (by have := hin2.out; have := htl2.out; omega)).mono ?_
            rintro e w6 ⟨rfl, hb2', hm6⟩
            replace hb2 := hide hb2'
            replace hb1 := hide (hb1.out.heap hm6 (by omega))
            replace hM := hide (hM.out.heap hm6 (by omega))
            replace hm := hide (hm.out.into hm6 fun q hq => Or.inr (by omega))
            clear hb2' hm6 hc2
            go_wp2
            go_roundw
            case rel => exact ⟨p + 1, by omega, by go_num, hM.out, by rw [htk.out]; exact hb1.out, by rw [htk2.out]; exact hb2.out, hm.out⟩
            case measure => simp [intOf]; omega
          · obtain rfl : p = n := by omega
            have ht1 : M0.toList.take p = M0.toList := List.take_of_length_le (by simp; omega)
            have ht2 : M.toList.take p = M.toList := List.take_of_length_le (by simp; omega)
            replace hb1 := hb1.out
            replace hb2 := hb2.out
            rw [ht1] at hb1
            rw [ht2, hper'.out] at hb2
            have hcl := tally_len M0.toList
            have hin := fun q => tally_in M0.toList q
            have hsm := tally_sum M0.toList
            have hl0 : M0.toList.length = p := by simp [hMs]
            rw [hl0] at hin hsm
            clear ht1 ht2 hu8 hper'
            generalize tally M0.toList = c at hb1 hb2 hcl hin hsm
            replace hb1 := hide hb1
            replace hb2 := hide hb2
            replace hm := hide hm
            replace hcl := hide hcl
            replace hin := hide hin
            replace hsm := hide hsm
            clear hZ hwf hM hM0 hY hwf2 hl0 hMs hMz
            obtain ⟨J, hJ⟩ : ∃ J, Lib.join (ents c 13) [44, 32] = J := ⟨_, rfl⟩
            obtain ⟨sm, hsmv⟩ : ∃ sm, sumTo c 13 = sm := ⟨_, rfl⟩
            obtain ⟨c0, hc0⟩ : ∃ c0, c.getD 0 0 = c0 := ⟨_, rfl⟩
            have hin9 : ∀ q, 0 ≤ c.getD q 0 ∧ c.getD q 0 ≤ 9007199254740992 := fun q => by have := hin.out q; omega
            have hsi := sumTo_in c hin9 13
            have hc0i := hin.out 0
            have hsm' := hsm.out
            rw [hsmv] at hsi hsm'
            rw [hc0] at hc0i hsm'
            have htx := text_of (at0 b1) c hcl.out
            have hty := text_of (at0 b2) c hcl.out
            have href := refused_of (at0 b1) c hcl.out hin9
            have hof := of_any b1 0 c
            rw [hJ] at htx hty
            rw [hsmv] at href
            rw [hc0] at hof
            replace hin9 := hide hin9
            replace htx := hide htx
            replace hty := hide hty
            replace href := hide href
            replace hof := hide hof
            replace hJ := hide hJ
            replace hsmv := hide hsmv
            replace hc0 := hide hc0
            go_wp2_with fail
            refine (same_any _ _ c c _ hcl.out hcl.out (fun w' hm' => all_any b1 _ w' (hb1.out.heap hm' id)) (fun w' hm' => all_any b2 _ w' (hb2.out.heap hm' id))).mono ?_
            rintro e w5 ⟨rfl, hm5⟩
            replace hb1 := hide (hb1.out.heap hm5 id)
            replace hb2 := hide (hb2.out.heap hm5 id)
            replace hm := hide (hm.out.trans hm5)
            clear hm5
            go_wp2_with fail
            refine (htx.out _ (all_any b1 _ _ hb1.out) hin9.out (hL.out.mod hm.out)).mono ?_
            rintro e w6 ⟨rfl, hm6⟩
            replace hb1 := hide (hb1.out.heap hm6 id)
            replace hb2 := hide (hb2.out.heap hm6 id)
            replace hm := hide (hm.out.trans hm6)
            clear hm6
            go_wp2_with fail
            refine (hty.out _ (all_any b2 _ _ hb2.out) hin9.out (hL.out.mod hm.out)).mono ?_
            rintro e w7 ⟨rfl, hm7⟩
            replace hb1 := hide (hb1.out.heap hm7 id)
            replace hb2 := hide (hb2.out.heap hm7 id)
            replace hm := hide (hm.out.trans hm7)
            clear hm7
            go_wp2_with fail
            refine (href.out _ (all_any b1 _ _ hb1.out)).mono ?_
            rintro e w8 ⟨rfl, hm8⟩
            replace hb1 := hide (hb1.out.heap hm8 id)
            replace hb2 := hide (hb2.out.heap hm8 id)
            replace hm := hide (hm.out.trans hm8)
            clear hm8
            go_wp2_with fail
            refine (hof.out _ hb1.out (by omega)).mono ?_
            rintro e w9 ⟨rfl, hm9⟩
            replace hb1 := hide (hb1.out.heap hm9 id)
            replace hb2 := hide (hb2.out.heap hm9 id)
            replace hm := hide (hm.out.trans hm9)
            clear hm9
            have hsw9 : IntKind.i64.wrap (sm + c0) = sm + c0 := IntWalk.i64_in _ (by omega)
            obtain ⟨i3, hi3, hi33⟩ : ∃ i : Nat, r % 13 = i ∧ i < 13 := ⟨(r % 13).toNat, by omega, by omega⟩
            have hci := hide (hin.out i3)
            go_wp2_with fail
            refine (add_any b2 i3 c _ hb2.out hi33 hci.out.1 (by have := hci.out; omega)).mono ?_
            rintro e w10 ⟨rfl, hb2', hm10⟩
            replace hm := hide (hm.out.into hm10 fun q hq => Or.inr (by omega))
            replace hb1 := hide (hb1.out.heap hm10 (by omega))
            clear hm10
            replace hb2' : CO w10 b2 (bump c i3) := hb2'
            have hcn := bump_ne c hcl.out i3 hi33
            have htn := text_ne c hcl.out i3 hi33 hci.out.1
            have hc2l : (bump c i3).length = 13 := by rw [bump_len]; exact hcl.out
            have hc2i : ∀ q, 0 ≤ (bump c i3).getD q 0 ∧ (bump c i3).getD q 0 ≤ 9007199254740992 := fun q => by
              rw [bump_at c hcl.out i3 q hi33]
              have := hin.out q
              split <;> omega
            rw [hJ.out] at htn
            generalize bump c i3 = c2 at hb2' hcn htn hc2l hc2i
            replace hb2 := hide hb2'
            clear hb2'
            have htz := text_of (at0 b2) c2 hc2l
            obtain ⟨J2, hJ2⟩ : ∃ J, Lib.join (ents c2 13) [44, 32] = J := ⟨_, rfl⟩
            rw [hJ2] at htz htn
            have hne : decide (c = c2) = false := by simpa using hcn
            replace htz := hide htz
            replace hc2l := hide hc2l
            replace hc2i := hide hc2i
            replace hJ2 := hide hJ2
            have hjj := hide htn
            clear hcn htn hi3 hsw9
            go_wp2_with fail
            refine (same_any _ _ c c2 _ hcl.out hc2l.out (fun w' hm' => all_any b1 _ w' (hb1.out.heap hm' id)) (fun w' hm' => all_any b2 _ w' (hb2.out.heap hm' id))).mono ?_
            rintro e w11 ⟨rfl, hm11⟩
            replace hb1 := hide (hb1.out.heap hm11 id)
            replace hb2 := hide (hb2.out.heap hm11 id)
            replace hm := hide (hm.out.trans hm11)
            clear hm11
            go_wp2_with fail
            refine (htx.out _ (all_any b1 _ _ hb1.out) hin9.out (hL.out.mod hm.out)).mono ?_
            rintro e w12 ⟨rfl, hm12⟩
            replace hb2 := hide (hb2.out.heap hm12 id)
            replace hm := hide (hm.out.trans hm12)
            clear hm12
            go_wp2_with fail
            refine (htz.out _ (all_any b2 _ _ hb2.out) hc2i.out (hL.out.mod hm.out)).mono ?_
            rintro e w13 ⟨rfl, hm13⟩
            replace hm := hide (hm.out.trans hm13)
            clear hm13
            go_wp2
            go_ret
            exact ⟨bool_ret (by simpa using hjj.out), hm.out⟩

theorem own : ownKnob Tryd.prog.godebug = none := by kernel_rfl

theorem laid_met (os : Os) : laidMet Tryd.prog Rows.countOrderRow.laid ((laidWorld os).forCall (fun _ _ => 0) ⟨#[], #[.slice none 0 0, .slice none 0 0, .int .u8 0], []⟩).memory :=
  laidMet_of_run' 8 (by kernel_rfl) (by kernel_rfl)
theorem reads (os : Os) {H : Type} (enc : TypeId × Value → H) : ∃ places, DataW.whole enc Tryd.prog ((laidWorld os).forCall (fun _ _ => 0) ⟨#[], #[.slice none 0 0, .slice none 0 0, .int .u8 0], []⟩).memory Tryd.f6.params.toList Rows.countOrderSpec.vars false #[.slice none 0 0, .slice none 0 0, .int .u8 0].toList 8 = some ([.nil, .nil, .lit (.int .u8 0)], [], places) :=
  ⟨[], by kernel_rfl⟩

set_option maxRecDepth 100000 in
theorem lifted (os : Os) (started : os.Started) (H : Type) (enc : TypeId × Value → H) (F : Stop.Interp) :
    ReturnsInHanded {} Tryd.checked os 6 .any ((OpenSpec.ofChange Rows.countOrderSpec).preRow enc Tryd.prog Tryd.f6 Rows.countOrderRow.domain false Rows.countOrderRow.laid) (((OpenSpec.ofChange Rows.countOrderSpec).at F).post enc Tryd.prog Tryd.f6 false true false false) := by
  obtain ⟨places, hx⟩ := reads os enc
  refine law_row (C := Tryd.checked) (bt := 4) own started (by kernel_rfl) Tryd.func6 (by kernel_rfl) (by kernel_rfl) (by kernel_rfl) Tryd.underlying4 rfl ?_ rfl
    (witness_row_at (enc := enc) (C := Tryd.checked) false (laidWorld os) #[.slice none 0 0, .slice none 0 0, .int .u8 0] rfl (by kernel_rfl) (by kernel_rfl) (by kernel_rfl)
      (OpenSpec.preRow_of_cond 8 hx (by kernel_rfl) (fun k hk => by cases hk) (by kernel_rfl) (laid_met os))) ?_
  · intro ds h
    match ds, h with
    | [d0, d1, d2], _ => rfl
  · intro W base args ds ps hval0 hA0 hsz hL hsh
    have hval : ∀ (j : Nat) t v, Tryd.f6.params[j]? = some t → args[j]? = some v → Value.okWide Tryd.prog W .any base t v := hval0
    have hA : DataW.TrodAll enc Tryd.prog W 0 (fun _ => true) true Tryd.f6.params.toList args.toList ds ps := hA0
    have hLd : Laid W := laid_of hL
    rw [Tryd.params6] at hA hval
    obtain ⟨v0, v1, v2, d0, d1, d2, p0, p1, p2, rfl, rfl, rfl, h0, h1, h2⟩ := trodAll_three hA
    obtain ⟨x, n, cap, Z, rfl, hn, hcap, hZ, hwf⟩ := open_intsAt Tryd.underlying41 Tryd.underlying5 (by kernel_rfl) (hval 0 _ _ rfl rfl) h0
    obtain ⟨y, n2, cap2, Y, rfl, hn2, hcap2, hY, hwf2⟩ := open_intsAt Tryd.underlying42 Tryd.underlying43 (by kernel_rfl) (hval 1 _ _ rfl rfl) h1
    obtain ⟨r, rfl, rfl, rfl, wr⟩ := open_int Tryd.underlying5 (hval 2 _ _ rfl rfl) h2
    exact walk x n cap hn hcap Z y n2 cap2 hn2 hcap2 Y r (bounds_u8 wr).1 (bounds_u8 wr).2 W hZ (fun j hj => bounds_u8 (hwf j hj)) hY (fun j hj => bounds_u16 (hwf2 j hj)) hLd

theorem said : Rows.CountOrderSaid :=
  OpenClaim.holds_of_cond 6 Tryd.f6 rfl rfl rfl rfl rfl rfl rfl ⟨rfl, rfl, rfl, rfl, rfl⟩ rfl rfl rfl rfl rfl (by kernel_rfl) Tryd.func6 (by kernel_rfl)
    (of_decide_eq_true (by kernel_rfl)) (by unfold Func.isWrapper; first | (rw [if_pos (by decide +kernel)]; kernel_rfl) | (rw [if_neg (by decide +kernel)]; exact ⟨rfl, rfl⟩))
    (fun os started H enc _ F => by rw [OpenClaim.pre_eq_preRow]; exact lifted os started H enc F)

theorem plain (f : FuncId) (fn : Func) (hf : Tryd.pinned.checked.prog.funcNamed "chronobate/chronobatelaw16.CountOrder" = some f) (hfn : Tryd.pinned.checked.prog.funcs[f]? = some fn) :
    false = Tryd.pinned.checked.prog.looks [] ∧ ∀ (j : Nat) t, fn.params[j]? = some t → Tryd.pinned.checked.prog.wantsStandIn t = false := by
  obtain rfl : f = 6 := Option.some.inj ((show Tryd.prog.funcNamed "chronobate/chronobatelaw16.CountOrder" = some 6 by kernel_rfl).symm.trans hf) |>.symm
  obtain rfl : fn = Tryd.f6 := (Option.some.inj (Tryd.func6.symm.trans hfn)).symm
  refine ⟨by kernel_rfl, fun j t ht => ?_⟩
  have hall : (Tryd.f6.params.toList.all fun t => !(Tryd.prog.wantsStandIn t)) = true := by kernel_rfl
  have := List.all_eq_true.1 hall t (Array.mem_toList_iff.2 (Array.mem_of_getElem? ht))
  have h2 : Tryd.prog.wantsStandIn t = false := by simpa using this
  exact h2

theorem proved : Rows.CountOrderCardSaid :=
  Claim7.holds_tied_plain_at .later [] _ _ _ _ said (fun _ h => by cases h) (by kernel_rfl) (fun _ h => by cases h) countOrder_row_tie rfl ⟨rfl, rfl⟩ (by kernel_rfl) rfl plain (by kernel_rfl)
#print axioms proved
end Go.Proofs.YtffcklhoeejlfaaDoor.countOrder
