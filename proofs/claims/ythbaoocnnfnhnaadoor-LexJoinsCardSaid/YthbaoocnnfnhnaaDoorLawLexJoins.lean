/- The lines of two texts, with a byte 10 between, are those of both, the second one's numbers behind the first one's. No condition. -/
import Derived.Test.YthbaoocnnfnhnaaDoorLxN
import Derived.Test.YthbaoocnnfnhnaaDoorKitQ
namespace Go.Proofs.YthbaoocnnfnhnaaDoor.lexJoins
open Go.ChangeShapes Go.WideShapes Go.ChangeAt Go.RowKit Go.Proofs.YthbaoocnnfnhnaaDoor
set_option linter.unusedVariables false

set_option maxRecDepth 100000 in
set_option maxHeartbeats 8000000 in
theorem walk (a b : List UInt8) (hla : a.length ≤ 9223372036854775807) (hlb : b.length ≤ 9223372036854775807) (w : World) (hL : LaidS w) :
    Calls Tryd.prog 5 #[.string (bs a), .string (bs b)] w fun e w' => e = .returned (.bool true) ∧ Mod NoB w w' := by
  replace hL := hide hL
  have hm : Hid (Mod NoB w w) := hide (Mod.refl _ _)
  go_enter Tryd.func5, Tryd.ntmps5
  by_cases h1 : 2000 < a.length
  · go_wp2_with fail
    refine (alive_any _ (hL.out.mod hm.out)).mono ?_
    rintro e w3 ⟨rfl, hm2⟩
    replace hm := hide (hm.out.trans hm2)
    clear hm2
    go_wp2
    go_ret
    exact ⟨rfl, hm.out⟩
  · have hd1 : decide ((2000 : Int) < (a.length : Int)) = false := by simp; omega
    by_cases h2 : 2000 < b.length
    · skip
      go_wp2_with fail
      refine (alive_any _ (hL.out.mod hm.out)).mono ?_
      rintro e w3 ⟨rfl, hm2⟩
      replace hm := hide (hm.out.trans hm2)
      clear hm2
      go_wp2
      go_ret
      exact ⟨rfl, hm.out⟩
    · have hd2 : decide ((2000 : Int) < (b.length : Int)) = false := by simp; omega
      have hjl : (a ++ 10 :: b).length ≤ 65536 := by simp; omega
      have hla2 := hide (lines_walk a (by omega))
      have hlb2 := hide (lines_walk b (by omega))
      have hlj := lines_walk (a ++ 10 :: b) hjl
      have hcat : bs a ++ ⟨#[10]⟩ ++ bs b = bs (a ++ 10 :: b) := by
        apply ByteArray.ext
        simp
      rw [← hcat] at hlj
      replace hlj := hide hlj
      clear hcat
      have hca : a.count 10 ≤ a.length := List.count_le_length
      have hcb : b.count 10 ≤ b.length := List.count_le_length
      have hpa : partsN 10 a ≤ 2001 := by simp only [partsN]; omega
      have hpb : partsN 10 b ≤ 2001 := by simp only [partsN]; omega
      clear hca hcb
      go_wp2_with fail
      refine (hla2.out _ (fun W hm => hL.out.mod hm)).mono ?_
      rintro e w1 ⟨(⟨j, a1, a2, a3, rfl⟩ | ⟨a1, u, rfl, hu⟩), hm2⟩
      · replace hm := hide hm2
        clear hm2
        replace a3 := hide a3
        have hj : (j : Int) < 65537 := by omega
        go_wp2_with fail
        refine (hlb2.out _ (fun W hm' => hL.out.mod (hm.out.trans hm'))).mono ?_
        rintro e w2 ⟨ho, hm2⟩
        obtain ⟨x, y, z, rfl⟩ : ∃ x y z, e = .returned (.tuple #[x, y, .int .i64 z]) := by
          rcases ho with ⟨j', _, _, _, rfl⟩ | ⟨_, v, rfl, _⟩
          · exact ⟨_, _, _, rfl⟩
          · exact ⟨_, _, _, rfl⟩
        clear ho a2 a3
        replace hm := hide (hm.out.trans hm2)
        clear hm2
        go_wp2_with fail
        refine (alive_any _ (hL.out.mod hm.out)).mono ?_
        rintro e w3 ⟨rfl, hm2⟩
        replace hm := hide (hm.out.trans hm2)
        clear hm2
        go_wp2
        go_ret
        exact ⟨rfl, hm.out⟩
      · replace hm := hide hm2
        clear hm2
        replace a1 := hide a1
        replace hu := hide hu
        go_wp2_with fail
        refine (hlb2.out _ (fun W hm' => hL.out.mod (hm.out.trans hm'))).mono ?_
        rintro e w2 ⟨(⟨j, b1, b2, b3, rfl⟩ | ⟨b1, v, rfl, hv⟩), hm2⟩
        · replace hm := hide (hm.out.trans hm2)
          clear hm2
          clear b2 b3
          go_wp2_with fail
          refine (alive_any _ (hL.out.mod hm.out)).mono ?_
          rintro e w3 ⟨rfl, hm2⟩
          replace hm := hide (hm.out.trans hm2)
          clear hm2
          go_wp2
          go_ret
          exact ⟨rfl, hm.out⟩
        · replace hm := hide (hm.out.trans hm2)
          replace hu := hide (hu.out.mod hm2 (fun _ h => h.elim))
          clear hm2
          replace b1 := hide b1
          replace hv := hide hv
          go_wp2_with fail
          refine (hlj.out _ (fun W hm' => hL.out.mod (hm.out.trans hm'))).mono ?_
          rintro e w3 ⟨(⟨j, c1, c2, c3, _⟩ | ⟨c1, n, rfl, hn⟩), hm2⟩
          · have := ok_join a1.out b1.out j c1
            rw [c2] at this
            cases this
          · clear c1
            replace hm := hide (hm.out.trans hm2)
            replace hu := hide (hu.out.mod hm2 (fun _ h => h.elim))
            replace hv := hide (hv.out.mod hm2 (fun _ h => h.elim))
            clear hm2 hlj hla2 hlb2 a1 b1
            rw [lines_join] at hn
            have hla4 := linesTo_len a (partsN 10 a)
            have hlb4 := linesTo_len b (partsN 10 b)
            have hwa := hide (linesTo_words a (partsN 10 a))
            have hwb := hide (linesTo_words b (partsN 10 b))
            have hya := hide (linesTo_word_len a (partsN 10 a))
            have hyb := hide (linesTo_word_len b (partsN 10 b))
            have hnb := hide (linesTo_num b (partsN 10 b))
            have hza := hide (linesTo_pos a (partsN 10 a))
            have hzb := hide (linesTo_pos b (partsN 10 b))
            have hcnt := Tryd.strings_Count_one (bs a) 10
            have hpc : ((Lib.countByte (bs a).data.toList 10 : Nat) : Int) + 1 = (partsN 10 a : Nat) := by rw [countByte_eq]; simp [partsN]
            generalize linesTo a (partsN 10 a) = La at *
            generalize linesTo b (partsN 10 b) = Lb at *
            generalize Lib.countByte (bs a).data.toList 10 = ct at *
            generalize partsN 10 a = Na at *
            generalize partsN 10 b = Nb at *
            replace hcnt := hide hcnt
            obtain ⟨pu, cu, rfl, hcu⟩ := hu.out.open
            obtain ⟨pv, cv, rfl, hcv⟩ := hv.out.open
            obtain ⟨pn, cn, rfl, hcn⟩ := hn.open
            have hbl : (La ++ behind Na Lb).length = La.length + Lb.length := by simp [behind]
            rw [hbl] at *
            replace hcu := hide hcu
            replace hcv := hide hcv
            replace hcn := hide hcn
            clear hu hv hn hbl
            replace hpc := hide hpc
            go_wp2_with fail
            refine (hcnt.out _).mono ?_
            rintro e w4 ⟨rfl, rfl⟩
            clear hcnt
            obtain rfl : Na = ct + 1 := by have := hpc.out; omega
            clear hpc
            go_wp2_with fail
            go_loopw [76] (fun vi wr => ∃ i : Nat, i ≤ La.length + Lb.length ∧ vi = .int .i64 i ∧ Mod NoB w4 wr) (fun vi _ => La.length + Lb.length - (intOf vi).toNat)
            case atStart => exact ⟨0, by omega, by rfl, Mod.refl _ _⟩
            case round =>
              obtain ⟨i, hi, rfl, hmr⟩ := hrel
              by_cases hlt : i < La.length + Lb.length
              · obtain ⟨x, hx⟩ : ∃ x, (La ++ behind (ct + 1) Lb)[i]? = some x := ⟨(La ++ behind (ct + 1) Lb)[i]'(by simp [behind]; omega), by simp⟩
                obtain ⟨gn, un, kn, rfl, n1, n2, n3⟩ := hcn.out i x hx
                replace n1 := hmr.cellAt id n1
                replace n2 := hmr.cellAt id n2
                replace n3 := hide (ownsRow_mod n3 hmr (fun _ h => h.elim))
                by_cases hia : i < La.length
                · have hxa : La[i]? = some x := by rw [← hx, List.getElem?_append_left hia]
                  have hxm := List.mem_of_getElem? hxa
                  have hxl := hwa.out x hxm
                  have hxw := hya.out x hxm
                  have hxp := hza.out x hxm
                  obtain ⟨gu, uu, ku, rfl, u1, u2, u3⟩ := hcu.out i x hxa
                  replace u1 := hmr.cellAt id u1
                  replace u2 := hmr.cellAt id u2
                  replace u3 := hide (ownsRow_mod u3 hmr (fun _ h => h.elim))
                  have hi0 : (0 : Int) ≤ (i : Int) := by omega
                  have hi1 : (i : Int) < (La.length : Int) := by omega
                  have hi2 : (i : Int) < (La.length : Int) + (Lb.length : Int) := by omega
                  replace hxw := hide hxw
                  replace hx := hide hx
                  replace hxa := hide hxa
                  replace hmr := hide hmr
                  have hgu := lt_of_cell u1
                  clear hxm
                  go_wp2_with fail
                  generalize hW5 : (wr.alloc (.cells #[.int .i64 x.1, .slice un x.2.length kn] 36)).alloc (.cells #[.int .i64 x.1, .slice uu x.2.length ku] 36) = W5
                  have hm5 : Mod NoB wr W5 := by rw [← hW5]; exact ((Mod.refl _ _).alloc _).alloc _
                  have x0 : W5.heap[wr.heap.size]? = some (.cells #[.int .i64 x.1, .slice un x.2.length kn] 36 (0, 0)) := by
                    rw [← hW5, heap_alloc_old (by simp)]; exact heap_alloc_new _ _
                  have x1 : W5.heap[wr.heap.size + 1]? = some (.cells #[.int .i64 x.1, .slice uu x.2.length ku] 36 (0, 0)) := by
                    rw [← hW5]; have := heap_alloc_new (wr.alloc (.cells #[.int .i64 x.1, .slice un x.2.length kn] 36)) (.cells #[.int .i64 x.1, .slice uu x.2.length ku] 36); rwa [World.size_alloc] at this
                  clear hW5 u1 u2 n1 n2
                  have y0 := Since.cell (cell_of_block x0 0 rfl)
                  have y1 := Since.cell (cell_of_block x0 1 rfl)
                  have z0 := Since.cell (cell_of_block x1 0 rfl)
                  have z1 := Since.cell (cell_of_block x1 1 rfl)
                  have hj1 := fun (y : Since W5) => Since.call y (fun w' h => joinw_any un kn _ x.2 w' (ownsRow_mod n3.out (hm5.trans h) (fun _ h => h.elim)) (by omega) (fun z hz => by have := hxw.out z hz; omega))
                  have hj2 := fun (y : Since W5) => Since.call y (fun w' h => joinw_any uu ku _ x.2 w' (ownsRow_mod u3.out (hm5.trans h) (fun _ h => h.elim)) (by omega) (fun z hz => by have := hxw.out z hz; omega))
                  replace hj1 := hide hj1
                  replace hj2 := hide hj2
                  clear x0 x1
                  have hx0 : ((x.2.length : Int) == 0) = false := beq_eq_false_iff_ne.mpr (by omega)
                  refine wp_region_mod (by kernel_rfl) (by kernel_rfl) ?_
                  repeat (go_big_quiet_step ((go_at_call 15; first | with_reducible exact hj1.out _ | with_reducible exact hj2.out _)))
                  refine wpQuiet_nil ?_
                  rintro _ ⟨⟨w6, hm6⟩, rfl⟩
                  replace hmr := hide ((hmr.out.trans hm5).trans hm6)
                  clear hm5 hm6
                  go_wp2_with fail
                  go_roundw
                  case rel => exact ⟨i + 1, by omega, by go_num, hmr.out⟩
                  case measure => simp [intOf]; omega
                · obtain ⟨k, rfl⟩ : ∃ k, i = La.length + k := ⟨i - La.length, by omega⟩
                  obtain ⟨y, hy⟩ : ∃ y, Lb[k]? = some y := ⟨Lb[k]'(by omega), by simp⟩
                  obtain rfl : x = (y.1 + (ct + 1), y.2) := by
                    rw [List.getElem?_append_right (by omega), Nat.add_sub_cancel_left, behind, List.getElem?_map, hy] at hx
                    exact (Option.some.inj hx).symm
                  have hxm := List.mem_of_getElem? hy
                  have hxl := hwb.out y hxm
                  have hxw := hyb.out y hxm
                  have hxp := hzb.out y hxm
                  have hxn := hnb.out y hxm
                  obtain ⟨gu, uu, ku, rfl, u1, u2, u3⟩ := hcv.out k y hy
                  replace u1 := hmr.cellAt id u1
                  replace u2 := hmr.cellAt id u2
                  replace u3 := hide (ownsRow_mod u3 hmr (fun _ h => h.elim))
                  have hk0 : (0 : Int) ≤ (k : Int) := by omega
                  have hk1 : (k : Int) < (Lb.length : Int) := by omega
                  have hi1 : ¬ ((La.length : Int) + (k : Int) < (La.length : Int)) := by omega
                  have hi2 : (La.length : Int) + (k : Int) < (La.length : Int) + (Lb.length : Int) := by omega
                  have hi3 : (0 : Int) ≤ (La.length : Int) + (k : Int) := by omega
                  have hkk : ((La.length : Int) + (k : Int) - (La.length : Int)) = (k : Int) := by omega
                  replace hxw := hide hxw
                  replace hx := hide hx
                  replace hy := hide hy
                  replace hmr := hide hmr
                  have hgu := lt_of_cell u1
                  clear hxm
                  go_wp2_with fail
                  have hw1 : IntKind.i64.wrap ((La.length : Int) + (k : Int) - (La.length : Int)) = (k : Int) := by rw [hkk]; exact IntWalk.i64_in _ (by omega)
                  have hw2 : IntKind.i64.wrap ((y.1 : Int) + ((ct : Int) + 1)) = (y.1 : Int) + ((ct : Int) + 1) := IntWalk.i64_in _ (by omega)
                  have hw3 : IntKind.i64.wrap (k : Int) = (k : Int) := IntWalk.i64_in _ (by omega)
                  go_region_with ((fail))
                  all_goals
                    clear hw1 hw2 hw3 hkk
                    go_wp2_with fail
                    generalize hW5 : ((wr.alloc (.cells #[.int .i64 ((y.1 : Int) + ((ct : Int) + 1)), .slice un y.2.length kn] 36)).alloc (.cells #[.int .i64 ((y.1 : Int) + ((ct : Int) + 1)), .slice uu y.2.length ku] 36)).drew = W5
                    have hm5 : Mod NoB wr W5 := by rw [← hW5]; exact (((Mod.refl _ _).alloc _).alloc _).drew
                    have x0 : W5.heap[wr.heap.size]? = some (.cells #[.int .i64 ((y.1 : Int) + ((ct : Int) + 1)), .slice un y.2.length kn] 36 (0, 0)) := by
                      rw [← hW5]
                      exact (heap_alloc_old (by simp) _).trans (heap_alloc_new _ _)
                    have x1 : W5.heap[wr.heap.size + 1]? = some (.cells #[.int .i64 ((y.1 : Int) + ((ct : Int) + 1)), .slice uu y.2.length ku] 36 (0, 0)) := by
                      rw [← hW5]; have := heap_alloc_new (wr.alloc (.cells #[.int .i64 ((y.1 : Int) + ((ct : Int) + 1)), .slice un y.2.length kn] 36)) (.cells #[.int .i64 ((y.1 : Int) + ((ct : Int) + 1)), .slice uu y.2.length ku] 36); rwa [World.size_alloc] at this
                    clear hW5 u1 u2 n1 n2
                    have y0 := Since.cell (cell_of_block x0 0 rfl)
                    have y1 := Since.cell (cell_of_block x0 1 rfl)
                    have z0 := Since.cell (cell_of_block x1 0 rfl)
                    have z1 := Since.cell (cell_of_block x1 1 rfl)
                    have hj1 := fun (q : Since W5) => Since.call q (fun w' h => joinw_any un kn _ y.2 w' (ownsRow_mod n3.out (hm5.trans h) (fun _ h => h.elim)) (by omega) (fun z hz => by have := hxw.out z hz; omega))
                    have hj2 := fun (q : Since W5) => Since.call q (fun w' h => joinw_any uu ku _ y.2 w' (ownsRow_mod u3.out (hm5.trans h) (fun _ h => h.elim)) (by omega) (fun z hz => by have := hxw.out z hz; omega))
                    replace hj1 := hide hj1
                    replace hj2 := hide hj2
                    clear x0 x1
                    have hx0 : ((y.2.length : Int) == 0) = false := beq_eq_false_iff_ne.mpr (by omega)
                    refine wp_region_mod (by kernel_rfl) (by kernel_rfl) ?_
                    repeat (go_big_quiet_step ((go_at_call 15; first | with_reducible exact hj1.out _ | with_reducible exact hj2.out _)))
                    refine wpQuiet_nil ?_
                    rintro _ ⟨⟨w6, hm6⟩, rfl⟩
                    replace hmr := hide ((hmr.out.trans hm5).trans hm6)
                    clear hm5 hm6
                    go_wp2_with fail
                    go_roundw
                    case rel => exact ⟨La.length + k + 1, by omega, by first | rfl | go_num, hmr.out⟩
                    case measure => simp [intOf]; omega
              · obtain rfl : i = La.length + Lb.length := by omega
                replace hmr := hide hmr
                replace hm := hide (hm.out.trans hmr.out)
                clear hmr
                go_wp2_with fail
                refine (alive_any _ (hL.out.mod hm.out)).mono ?_
                rintro e w5 ⟨rfl, hm2⟩
                replace hm := hide (hm.out.trans hm2)
                clear hm2
                go_wp2
                go_ret
                exact ⟨rfl, hm.out⟩

theorem own : ownKnob Tryd.prog.godebug = none := by kernel_rfl

theorem laid_met (os : Os) : laidMet Tryd.prog Rows.lexJoinsRow.laid ((World.laidAll Tryd.prog os Rows.lexJoinsRow.laid).forCall (fun _ _ => 0) ⟨#[], #[.string ⟨#[]⟩, .string ⟨#[]⟩], []⟩).memory :=
  laidMet_laidAll _ (by kernel_rfl) (by kernel_rfl)
theorem reads (os : Os) {H : Type} (enc : TypeId × Value → H) : ∃ places, DataW.whole enc Tryd.prog ((World.laidAll Tryd.prog os Rows.lexJoinsRow.laid).forCall (fun _ _ => 0) ⟨#[], #[.string ⟨#[]⟩, .string ⟨#[]⟩], []⟩).memory Tryd.f5.params.toList Rows.lexJoinsSpec.vars false #[.string ⟨#[]⟩, .string ⟨#[]⟩].toList 8 = some ([.lit (.string []), .lit (.string [])], [], places) :=
  ⟨[], by kernel_rfl⟩

set_option maxRecDepth 100000 in
theorem lifted (os : Os) (started : os.Started) (H : Type) (enc : TypeId × Value → H) (F : Stop.Interp) :
    ReturnsInHanded {} Tryd.checked os 5 .any ((OpenSpec.ofChange Rows.lexJoinsSpec).preRow enc Tryd.prog Tryd.f5 Rows.lexJoinsRow.domain false Rows.lexJoinsRow.laid) (((OpenSpec.ofChange Rows.lexJoinsSpec).at F).post enc Tryd.prog Tryd.f5 false true false false) := by
  obtain ⟨places, hx⟩ := reads os enc
  refine law_row (C := Tryd.checked) (bt := 4) own started (by kernel_rfl) Tryd.func5 (by kernel_rfl) (by kernel_rfl) (by kernel_rfl) Tryd.underlying4 rfl ?_ rfl
    (witness_row_atRef (enc := enc) (C := Tryd.checked) false (World.laidAll Tryd.prog os Rows.lexJoinsRow.laid) #[.string ⟨#[]⟩, .string ⟨#[]⟩] (World.laidAll_os _ _ _) (by kernel_rfl) (by kernel_rfl) (by kernel_rfl)
      (OpenSpec.preRow_of_cond 8 hx (by kernel_rfl) (fun k hk => by cases hk) (by kernel_rfl) (laid_met os))) ?_
  · intro ds h
    match ds, h with
    | [d0, d1], _ => rfl
  · intro W base args ds ps hval0 hA0 hsz hL hsh
    have hval : ∀ (j : Nat) t v, Tryd.f5.params[j]? = some t → args[j]? = some v → Value.okWide Tryd.prog W .any base t v := hval0
    have hA : DataW.TrodAll enc Tryd.prog W 0 (fun _ => true) true Tryd.f5.params.toList args.toList ds ps := hA0
    have hLd := laidS_of (by simp [Rows.lexJoinsRow]) hL
    rw [Tryd.params5] at hA hval
    obtain ⟨v0, v1, d0, d1, p0, p1, rfl, rfl, rfl, h0, h1⟩ := trodAll_two hA
    obtain ⟨l, rfl, wl⟩ := open_bs Tryd.underlying9 (hval 0 _ _ rfl rfl) h0
    obtain ⟨r, rfl, wr⟩ := open_bs Tryd.underlying9 (hval 1 _ _ rfl rfl) h1
    exact walk l r wl wr W hLd

theorem said : Rows.LexJoinsSaid :=
  OpenClaim.holds_of_cond 5 Tryd.f5 rfl rfl rfl rfl rfl rfl rfl ⟨rfl, rfl, rfl, rfl, rfl⟩ rfl rfl rfl rfl rfl (by kernel_rfl) Tryd.func5 (by kernel_rfl)
    (of_decide_eq_true (by kernel_rfl)) (by unfold Func.isWrapper; first | (rw [if_pos (by decide +kernel)]; kernel_rfl) | (rw [if_neg (by decide +kernel)]; exact ⟨rfl, rfl⟩))
    (fun os started H enc _ F => by rw [OpenClaim.pre_eq_preRow]; exact lifted os started H enc F)

theorem plain (f : FuncId) (fn : Func) (hf : Tryd.pinned.checked.prog.funcNamed "chronobate/chronobatelaw05.LexJoins" = some f) (hfn : Tryd.pinned.checked.prog.funcs[f]? = some fn) :
    true = Tryd.pinned.checked.prog.looks [] ∧ ∀ (j : Nat) t, fn.params[j]? = some t → Tryd.pinned.checked.prog.wantsStandIn t = false := by
  obtain rfl : f = 5 := Option.some.inj ((show Tryd.prog.funcNamed "chronobate/chronobatelaw05.LexJoins" = some 5 by kernel_rfl).symm.trans hf) |>.symm
  obtain rfl : fn = Tryd.f5 := (Option.some.inj (Tryd.func5.symm.trans hfn)).symm
  refine ⟨by kernel_rfl, fun j t ht => ?_⟩
  have hall : (Tryd.f5.params.toList.all fun t => !(Tryd.prog.wantsStandIn t)) = true := by kernel_rfl
  have := List.all_eq_true.1 hall t (Array.mem_toList_iff.2 (Array.mem_of_getElem? ht))
  have h2 : Tryd.prog.wantsStandIn t = false := by simpa using this
  exact h2

theorem proved : Rows.LexJoinsCardSaid :=
  Claim7.holds_tied_plain_at .later [] _ _ _ _ said (fun _ h => by cases h) (by kernel_rfl) (fun _ h => by cases h) lexJoins_row_tie rfl ⟨rfl, rfl⟩ (by kernel_rfl) rfl plain (by kernel_rfl)
#print axioms proved
end Go.Proofs.YthbaoocnnfnhnaaDoor.lexJoins
