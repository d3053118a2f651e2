/- Each reason is counted by itself; its name and number stand in the text, if it isn't 0. No condition. -/
import Derived.Test.YtffcklhoeejlfaaDoorCoH
import Derived.Test.YtffcklhoeejlfaaDoorKitMapB
namespace Go.Proofs.YtffcklhoeejlfaaDoor.countEach
open Go.ChangeShapes Go.WideShapes Go.ChangeAt Go.RowKit Go.Proofs.YtffcklhoeejlfaaDoor
set_option linter.unusedVariables false

set_option maxHeartbeats 8000000 in
theorem walk (a n : Int) (ha : 0 ≤ a ∧ a ≤ 255) (hn : 0 ≤ n ∧ n ≤ 255) (w : World) (hL : Laid w) :
    Calls Tryd.prog 4 #[.int .u8 a, .int .u8 n] w fun e w' => e = .returned (.bool true) ∧ Mod NoB w w' := by
  obtain ⟨ha1, ha2⟩ := ha
  obtain ⟨hn1, hn2⟩ := hn
  have hk1 : 0 ≤ a % 13 := Int.emod_nonneg _ (by omega)
  have hk2 : a % 13 < 13 := Int.emod_lt_of_pos _ (by omega)
  obtain ⟨k, hk⟩ := Int.eq_ofNat_of_zero_le hk1
  have hk3 : k < 13 := by omega
  replace hL := hide hL
  have hmm := @run_makeMap Tryd.prog
  have hR1 := run_put1
  have hN := objAt_new
  have hD := objAt_drew
  have hZ := size_setO
  have hS := objAt_setO
  have hA : ∀ (w : World) (o : Obj), (w.heap.size < (w.alloc o).heap.size) = True := fun w o => by simp
  go_enter Tryd.func4, Tryd.ntmps4
  go_wp2_with fail
  refine (new_any _).mono ?_
  rintro e w1 ⟨b, rfl, hle, hb, hm⟩
  replace hb := hide hb
  replace hm := hide hm
  go_wp2_with fail
  refine (alive_any _ (hL.out.mod hm.out)).mono ?_
  rintro e w2 ⟨rfl, hm2⟩
  replace hb := hide (hb.out.heap hm2 id)
  replace hm := hide (hm.out.trans hm2)
  clear hm2
  go_wp2_with fail
  go_loopw [22] (fun i wr => ∃ j : Nat, (j : Int) ≤ n ∧ i = .int .u8 j ∧ CO wr b (zero13.set k j) ∧ Mod NoB w wr) (fun i _ => 256 - (intOf i).toNat)
  case atStart => exact ⟨0, by omega, rfl, by
    have : zero13.set k ((0 : Nat) : Int) = zero13 := by
      have hk := hk3
      match k, hk with
      | 0, _ | 1, _ | 2, _ | 3, _ | 4, _ | 5, _ | 6, _ | 7, _ | 8, _ | 9, _ | 10, _ | 11, _ | 12, _ => rfl
    rw [this]; exact hb.out, hm.out⟩
  case round =>
    obtain ⟨j, hj, rfl, hco, hmr⟩ := hrel
    replace hco := hide hco
    replace hmr := hide hmr
    by_cases hlt : (j : Int) < n
    · have h1 := hide (one_at k hk3 j k)
      go_wp2_with fail
      refine (add_any b k _ _ hco.out hk3 (by rw [h1.out]; simp) (by rw [h1.out]; simp; omega)).mono ?_
      rintro e w4 ⟨rfl, hco2, hm4⟩
      have hco3 : Hid (CO w4 b (zero13.set k ((j + 1 : Nat) : Int))) := hide (by
        rw [h1.out, List.set_set] at hco2
        simpa using hco2)
      have hmr4 := hide (hmr.out.into hm4 fun q hq => Or.inr (by omega))
      clear hco2 hm4
      go_wp2
      go_roundw
      case rel => exact ⟨j + 1, by omega, by go_num, hco3.out, hmr4.out⟩
      case measure => simp [intOf]; omega
    · obtain rfl : (j : Int) = n := by omega
      have hR2 := run_put2 j 0
      have hR3 := fun b => run_get2 b j 0
      go_wp2_with fail
      go_loopw [28] (fun i wr => ∃ q : Nat, q ≤ 13 ∧ i = .int .i64 q ∧ CO wr b (zero13.set k j) ∧ Mod NoB w wr) (fun i _ => 13 - (intOf i).toNat)
      case atStart => exact ⟨0, by omega, rfl, hco.out, hmr.out⟩
      case round =>
        clear hco hmr
        obtain ⟨q, hq, rfl, hco, hmr⟩ := hrel
        replace hco := hide hco
        replace hmr := hide hmr
        by_cases hlq : q < 13
        · have hof := fun w' hc => of_any b q (zero13.set k j) w' hc hlq
          rw [one_at k hk3] at hof
          by_cases hqk : k = q
          · subst hqk
            simp only [if_true] at hof
            replace hof := hide hof
            have hbb : ((k : Int) == (k : Int)) = true := by simp
            go_wp2_with fail
            refine (hof.out _ (hco.out.heap (((((Mod.refl NoB wr).alloc _).setO (Nat.le_refl _) _).setO (Nat.le_refl _) _)) id)).mono ?_
            rintro e w4 ⟨rfl, hm4⟩
            replace hm4 := hide ((((((Mod.refl NoB wr).alloc _).setO (Nat.le_refl _) _).setO (Nat.le_refl _) _)).trans hm4)
            go_wp2
            go_roundw
            case rel => exact ⟨k + 1, by omega, by go_num, hco.out.heap hm4.out id, hmr.out.trans hm4.out⟩
            case measure => simp [intOf]; omega
          · simp only [if_neg hqk] at hof
            replace hof := hide hof
            have hbb : ((q : Int) == (k : Int)) = false := by simp; omega
            go_wp2_with fail
            refine (hof.out _ (hco.out.heap (((((Mod.refl NoB wr).alloc _).setO (Nat.le_refl _) _).setO (Nat.le_refl _) _)) id)).mono ?_
            rintro e w4 ⟨rfl, hm4⟩
            replace hm4 := hide ((((((Mod.refl NoB wr).alloc _).setO (Nat.le_refl _) _).setO (Nat.le_refl _) _)).trans hm4)
            go_wp2
            go_roundw
            case rel => exact ⟨q + 1, by omega, by go_num, hco.out.heap hm4.out id, hmr.out.trans hm4.out⟩
            case measure => simp [intOf]; omega
        · obtain rfl : q = 13 := by omega
          have hmm6 := hide (one_at k hk3 j)
          have hin : Hid (∀ q, 0 ≤ (zero13.set k (j : Int)).getD q 0 ∧ (zero13.set k (j : Int)).getD q 0 ≤ 9007199254740992) := hide (fun q => by rw [one_at k hk3]; split <;> omega)
          have htxt := ents_one k hk3 j 13
          have hsum := sum_one k hk3 j 13
          have hcl : Hid ((zero13.set k (j : Int)).length = 13) := hide (by simp [zero13])
          clear hR2 hR3
          have hR2 := run_put2 0 j
          have hR3 := fun b => run_get2 b 0 j
          have hsv : (if k = 0 then (0 : Int) else j) = sumTo (zero13.set k (j : Int)) 13 := by
            rw [hsum]
            by_cases h0 : k = 0 <;> simp [h0, hk3]
          clear hsum
          have hLc := True.intro
          have hL0 : ((k : Int) == 0) = decide (k = 0) := by
            by_cases h0 : k = 0 <;> simp [h0]
          generalize zero13.set k (j : Int) = c at hco hin htxt hcl hsv
          obtain ⟨sm, hsm⟩ : ∃ sm, sumTo c 13 = sm := ⟨_, rfl⟩
          rw [hsm] at hsv
          have href := refused_of (at0 b) c hcl.out hin.out
          rw [hsm] at href
          replace hsm := hide hsm
          replace href := hide href
          have htx := text_of (at0 b) c hcl.out
          replace hsv := hide hsv
          obtain ⟨J, hJ⟩ : ∃ J, Lib.join (ents c 13) [44, 32] = J := ⟨_, rfl⟩
          rw [hJ] at htx
          replace htx := hide htx
          replace hJ := hide hJ
          replace htxt := hide htxt
          go_upto_if 46 with (fail)
          go_cut [9] from 45 to 55 (fun v wc => v = .string (bs J) ∧ CO wc b c ∧ Mod NoB w wc)
          case first =>
            by_cases hj0 : j = 0
            · subst hj0
              have hJ0 : J = [] := by
                have h1 := htxt.out
                rw [if_neg (by simp)] at h1
                rw [← hJ.out, h1]; rfl
              replace hJ0 := hide hJ0
              go_wp2
              go_meet
              case rel => exact ⟨by rw [hJ0.out], hco.out, hmr.out⟩
            · have hj1 : (0 : Int) < j := by omega
              have hid := hide (itoa_nat j)
              have hil := Lib.itoa_length_le j (by omega) (by omega)
              rw [hid.out] at hil
              have hnl := nameL_len k
              obtain ⟨nm, hnm⟩ : ∃ nm, nameL.getD k [] = nm := ⟨_, rfl⟩
              obtain ⟨D, hDD⟩ : ∃ D, Lib.decDigits j = D := ⟨_, rfl⟩
              have hJ1 : bs nm ++ ⟨#[32]⟩ ++ bs D = bs J := by
                have h1 := htxt.out
                rw [if_pos ⟨hk3, hj1⟩, hid.out, hnm, hDD] at h1
                rw [← hJ.out, h1, Lib.join_one]
                exact (congrArg (· ++ bs D) (bytes_append nm [32])).trans (bytes_append _ D)
              rw [hnm] at hnl
              rw [hDD] at hil
              replace hnm := hide hnm
              replace hDD := hide hDD
              replace hJ1 := hide hJ1
              have q1 : (9223372036854775807 < nm.length + 1) = False := by simp; omega
              have q2 : (9223372036854775807 < nm.length + 1 + D.length) = False := by simp; omega
              have hwj : IntKind.i64.wrap (j : Int) = j := IntWalk.i64_in _ (by omega)
              clear hR1 hR2 hR3 hN hD hZ hS hA hmm
              go_wp2_with fail
              go_region_with ((first
                | (go_at_call 14; refine (rnames_any _).mono ?_; rintro e w5 ⟨r, cap, rfl, hcs, hr1, hr2, hm5⟩; replace hm5 : Mod NoB wr w5 := ((Mod.refl _ _).drew.trans hm5); have hcA := hcs k hk3; rw [hnm.out] at hcA; have hcB : ∀ w'', Mod NoB w5 w'' → w''.cell? ⟨r, k, none⟩ = some (.string (bs nm)) := (fun w'' hmm => hmm.cellAt id hcA); replace hcs := hide hcs)
                | (go_at_call 15; refine (dec_any j (by omega) _).mono ?_; rintro e w6 ⟨rfl, hm6⟩; rw [hDD.out]; have hm56 := hm5.trans hm6)))
              all_goals
                replace hm56 := hide hm56
                clear hm5 hm6 hcB hcA
                go_wp2
                go_meet
                case rel => exact ⟨by rw [← hJ1.out], hco.out.heap hm56.out id, hmr.out.trans hm56.out⟩
          case rest =>
            obtain ⟨rfl, hcoc, hmc⟩ := hcut
            clear hco hmr
            replace hcoc := hide hcoc
            replace hmc := hide hmc
            have hwj : IntKind.i64.wrap (j : Int) = j := IntWalk.i64_in _ (by omega)
            have hw0 : IntKind.i64.wrap 0 = 0 := by decide
            obtain ⟨kb, hkb⟩ : ∃ kb, decide (k = 0) = kb := ⟨_, rfl⟩
            have hkc : ((k : Int) == 0) = kb := by rw [hL0, hkb]
            have hsv2 : (if kb = true then (0 : Int) else j) = sm := by
              rw [← hsv.out, ← hkb]
              by_cases h0 : k = 0 <;> simp [h0]
            clear hR3
            have hR3 : ∀ (w : World) (r : Nat), objAt w r = some (.map #[ent true 0 0, ent false j 1] 2) → (Instr.lookup 34 (.map (some r)) (.bool kb) false).run Tryd.prog w = .ok (.int .i64 sm) w := fun w r h => by
              rw [run_get2 kb 0 j w r h, hsv2]
            have hF3 : ∀ (w : World) (r : Nat), objAt w r = some (.map #[ent false j 0, ent true 0 1] 2) → (Instr.lookup 34 (.map (some r)) (.bool kb) false).run Tryd.prog w = .ok (.int .i64 sm) w := fun w r h => by
              rw [run_get2f kb j 0 w r h, hsv2]
            have hF1 := run_put1f
            have hF2 := run_put2f j 0
            replace hsv2 := hide hsv2
            replace hL0 := hide hL0
            clear htxt hJ hmm6 hcl hLc hk1 hk2 ha1 ha2 hj hq hb hm hle
            go_wp2_with fail
            go_region_law (first
              | (go_simp; go_at_call 12; refine (htx.out _ (all_any b _ _ (hcoc.out.heap (Mod.refl NoB wc).drew id)) hin.out (hL.out.mod (hmc.out.trans (Mod.refl NoB wc).drew))).mono ?_; rintro e w5 ⟨rfl, hm5⟩; replace hm5 : Mod NoB wc w5 := (Mod.refl NoB wc).drew.trans hm5; have hz5 := hm5.size)
              | (go_simp; go_at_call 11; refine (href.out _ (all_any b _ _ (hcoc.out.heap (S := NoB) ?hx id))).mono ?_; (case hx => (repeat (first | exact hm5 | refine Mod.setO ?_ hz5 _ | refine Mod.alloc ?_ _))); rintro e w6 ⟨rfl, hm6⟩; have hK := fun r hr => hm6.objAt (fun _ => id) r hr; have hz6 := hm6.size; (first | (have hz7 := eq_true (lt1 hz6)) | (have hz7 := eq_true (lt2 hz6)) | (have hz7 := eq_true (lt3 hz6)) | skip)))
            all_goals
              have hfin : ∀ wz, Mod NoB wc wz → Mod NoB w wz := fun wz h => hmc.out.trans h
              replace hfin := hide hfin
              clear hR1 hR2 hR3 hF1 hF2 hF3 hN hD hZ hS hA hmm
              replace hm6 := hide hm6
              replace hm5 := hide hm5
              go_wp2
              go_ret
              refine ⟨bool_ret (by first | rfl | simp), hfin.out _ ?_⟩
              repeat (first | exact hm5.out | refine Mod.setO ?_ (by first | exact hz5 | exact Nat.le_trans hz5 (Nat.le_of_lt (by simpa using hz7)) | exact Nat.le_trans hz5 hz6) _ | refine Mod.alloc ?_ _ | refine Mod.trans ?_ hm6.out)

theorem own : ownKnob Tryd.prog.godebug = none := by kernel_rfl

theorem laid_met (os : Os) : laidMet Tryd.prog Rows.countEachRow.laid ((laidWorld os).forCall (fun _ _ => 0) ⟨#[], #[.int .u8 0, .int .u8 0], []⟩).memory :=
  laidMet_of_run' 8 (by kernel_rfl) (by kernel_rfl)
theorem reads (os : Os) {H : Type} (enc : TypeId × Value → H) : ∃ places, DataW.whole enc Tryd.prog ((laidWorld os).forCall (fun _ _ => 0) ⟨#[], #[.int .u8 0, .int .u8 0], []⟩).memory Tryd.f4.params.toList Rows.countEachSpec.vars false #[.int .u8 0, .int .u8 0].toList 8 = some ([.lit (.int .u8 0), .lit (.int .u8 0)], [], places) :=
  ⟨[], by kernel_rfl⟩

set_option maxRecDepth 100000 in
theorem lifted (os : Os) (started : os.Started) (H : Type) (enc : TypeId × Value → H) (F : Stop.Interp) :
    ReturnsInHanded {} Tryd.checked os 4 .any ((OpenSpec.ofChange Rows.countEachSpec).preRow enc Tryd.prog Tryd.f4 Rows.countEachRow.domain false Rows.countEachRow.laid) (((OpenSpec.ofChange Rows.countEachSpec).at F).post enc Tryd.prog Tryd.f4 false true false false) := by
  obtain ⟨places, hx⟩ := reads os enc
  refine law_row (C := Tryd.checked) (bt := 4) own started (by kernel_rfl) Tryd.func4 (by kernel_rfl) (by kernel_rfl) (by kernel_rfl) Tryd.underlying4 rfl ?_ rfl
    (witness_row_at (enc := enc) (C := Tryd.checked) false (laidWorld os) #[.int .u8 0, .int .u8 0] rfl (by kernel_rfl) (by kernel_rfl) (by kernel_rfl)
      (OpenSpec.preRow_of_cond 8 hx (by kernel_rfl) (fun k hk => by cases hk) (by kernel_rfl) (laid_met os))) ?_
  · intro ds h
    match ds, h with
    | [d0, d1], _ => rfl
  · intro W base args ds ps hval0 hA0 hsz hL hsh
    have hval : ∀ (j : Nat) t v, Tryd.f4.params[j]? = some t → args[j]? = some v → Value.okWide Tryd.prog W .any base t v := hval0
    have hA : DataW.TrodAll enc Tryd.prog W 0 (fun _ => true) true Tryd.f4.params.toList args.toList ds ps := hA0
    have hLd : Laid W := laid_of hL
    rw [Tryd.params4] at hA hval
    obtain ⟨v0, v1, d0, d1, p0, p1, rfl, rfl, rfl, h0, h1⟩ := trodAll_two hA
    obtain ⟨a, rfl, rfl, rfl, wa⟩ := open_int Tryd.underlying5 (hval 0 _ _ rfl rfl) h0
    obtain ⟨b, rfl, rfl, rfl, wb⟩ := open_int Tryd.underlying5 (hval 1 _ _ rfl rfl) h1
    exact walk a b (bounds_u8 wa) (bounds_u8 wb) W hLd

theorem said : Rows.CountEachSaid :=
  OpenClaim.holds_of_cond 4 Tryd.f4 rfl rfl rfl rfl rfl rfl rfl ⟨rfl, rfl, rfl, rfl, rfl⟩ rfl rfl rfl rfl rfl (by kernel_rfl) Tryd.func4 (by kernel_rfl)
    (of_decide_eq_true (by kernel_rfl)) (by unfold Func.isWrapper; first | (rw [if_pos (by decide +kernel)]; kernel_rfl) | (rw [if_neg (by decide +kernel)]; exact ⟨rfl, rfl⟩))
    (fun os started H enc _ F => by rw [OpenClaim.pre_eq_preRow]; exact lifted os started H enc F)

theorem plain (f : FuncId) (fn : Func) (hf : Tryd.pinned.checked.prog.funcNamed "chronobate/chronobatelaw16.CountEach" = some f) (hfn : Tryd.pinned.checked.prog.funcs[f]? = some fn) :
    false = Tryd.pinned.checked.prog.looks [] ∧ ∀ (j : Nat) t, fn.params[j]? = some t → Tryd.pinned.checked.prog.wantsStandIn t = false := by
  obtain rfl : f = 4 := Option.some.inj ((show Tryd.prog.funcNamed "chronobate/chronobatelaw16.CountEach" = some 4 by kernel_rfl).symm.trans hf) |>.symm
  obtain rfl : fn = Tryd.f4 := (Option.some.inj (Tryd.func4.symm.trans hfn)).symm
  refine ⟨by kernel_rfl, fun j t ht => ?_⟩
  have hall : (Tryd.f4.params.toList.all fun t => !(Tryd.prog.wantsStandIn t)) = true := by kernel_rfl
  have := List.all_eq_true.1 hall t (Array.mem_toList_iff.2 (Array.mem_of_getElem? ht))
  have h2 : Tryd.prog.wantsStandIn t = false := by simpa using this
  exact h2

theorem proved : Rows.CountEachCardSaid :=
  Claim7.holds_tied_plain_at .later [] _ _ _ _ said (fun _ h => by cases h) (by kernel_rfl) (fun _ h => by cases h) countEach_row_tie rfl ⟨rfl, rfl⟩ (by kernel_rfl) rfl plain (by kernel_rfl)
#print axioms proved
end Go.Proofs.YtffcklhoeejlfaaDoor.countEach
