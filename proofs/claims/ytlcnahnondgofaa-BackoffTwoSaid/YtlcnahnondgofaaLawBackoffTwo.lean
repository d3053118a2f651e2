/- Two backoffs have nothing to do with one another; a Good makes one as new. No condition. -/
import Derived.Test.YtlcnahnondgofaaBkE
import Derived.Test.YtlcnahnondgofaaKit2
namespace Go.Proofs.Ytlcnahnondgofaa.backoffTwo
open Go.ChangeShapes Go.WideShapes Go.ChangeAt Go.RowKit Go.Proofs.Ytlcnahnondgofaa

/-- k Fails. -/
def grown (m : Int) (n : Int) : Nat → Int
  | 0 => n
  | k + 1 => nextZ (grown m n k) m

theorem grown_in {l m n : Int} (h1 : 4 ≤ l) (h3 : m ≤ 1024) (hn : l ≤ n) (hnm : n ≤ m) (k : Nat) : l ≤ grown m n k ∧ grown m n k ≤ m := by
  induction k with
  | zero => exact ⟨hn, hnm⟩
  | succ k ih =>
    obtain ⟨a, b⟩ := ih
    simp only [grown, nextZ]
    rw [if_neg (by omega)]
    split <;> omega

set_option maxHeartbeats 4000000 in
theorem walk (a b c : Int) (ha : 0 ≤ a) (ha2 : a ≤ 65535) (hb : 0 ≤ b) (hb2 : b ≤ 65535) (hc : 0 ≤ c) (hc2 : c ≤ 255) (x : Option Addr) (n cap : Nat) (hn : n ≤ 9223372036854775807) (B : Nat → Bool) (w : World) (hB : BoolsAt w x n B) :
    Calls Try.prog 7 #[.agg #[.int .u16 a, .int .u16 b], .slice x n cap, .int .u8 c] w fun e w' => e = .returned (.bool true) ∧ Mod NoB w w' := by
  have hq0 : 0 ≤ b % (1024 - (4 + a % 1021) + 1) := Int.emod_nonneg _ (by omega)
  have hq1 : b % (1024 - (4 + a % 1021) + 1) < 1024 - (4 + a % 1021) + 1 := Int.emod_lt_of_pos _ (by omega)
  obtain ⟨l, el⟩ : ∃ l, 4 + a % 1021 = l := ⟨_, rfl⟩
  rw [el] at hq0 hq1
  have hl : 4 ≤ l := by omega
  obtain ⟨m, em⟩ : ∃ m, l + b % (1024 - l + 1) = m := ⟨_, rfl⟩
  have hlm : l ≤ m := by omega
  have hm : m ≤ 1024 := by omega
  have h1 : Hid ((decide (4 ≤ l) && decide (l ≤ 1024)) = true) := hide (by simp; omega)
  have h2 : Hid ((decide (4 ≤ m) && decide (m ≤ 1024)) = true) := hide (by simp; omega)
  have il : I64 l := ⟨by omega, by omega⟩
  have im : I64 m := ⟨by omega, by omega⟩
  replace hB := hide hB
  by_cases hn3 : 100 < n
  · go_enter Try.func7, Try.ntmps7
    go_wp2_with fail
    refine (new_ok l m il im h1.out h2.out hlm _).mono ?_
    rintro e w1 ⟨q, rfl, hle, hb, hm1⟩
    replace hm1 := hide ((((Mod.refl NoB w).alloc _).trans hm1))
    replace hb := hide hb
    go_wp2_with fail
    refine (new_ok l m il im h1.out h2.out hlm _).mono ?_
    rintro e w2 ⟨p, rfl, hle2, hb2, hm2⟩
    replace hm2 := hide (hm1.out.trans hm2)
    replace hb2 := hide hb2
    go_wp2_with fail
    refine (alive_any _).mono ?_
    rintro e w4 ⟨rfl, hm4⟩
    replace hm4 := hide hm4
    go_wp2
    go_ret
    exact ⟨rfl, hm2.out.trans hm4.out⟩
  · go_enter Try.func7, Try.ntmps7
    go_wp2_with fail
    refine (new_ok l m il im h1.out h2.out hlm _).mono ?_
    rintro e w1 ⟨q, rfl, hle, hb, hm1⟩
    replace hle : w.heap.size ≤ q := by simp at hle; omega
    replace hm1 := hide ((((Mod.refl NoB w).alloc _).trans hm1))
    have hq1 := lt_of_block hb
    replace hb := hide hb
    go_wp2_with fail
    refine (new_ok l m il im h1.out h2.out hlm _).mono ?_
    rintro e w2 ⟨p, rfl, hle2, hbp, hm2⟩
    have hpq : w.heap.size ≤ p := by have := hm1.out.size; omega
    have hne : q < p := by omega
    clear hq1 hle2
    replace hb := hide (hm2.heap hb.out id)
    replace hm2 := hide (hm1.out.trans hm2)
    replace hbp := hide hbp
    go_wp2_with fail
    go_loopw [68] (fun i wr => ∃ k : Nat, k ≤ n ∧ i = .int .i64 k ∧ BO wr q l m (stB l m B k).1 (stB l m B k).2 ∧ BO wr p l m l 0 ∧ Mod NoB w wr)
      (fun i _ => n - (intOf i).toNat)
    case atStart => exact ⟨0, by omega, rfl, hb.out, hbp.out, hm2.out⟩
    case round =>
      obtain ⟨k, hk, rfl, hbo, hbo2, hmr⟩ := hrel
      replace hbo := hide hbo
      replace hbo2 := hide hbo2
      replace hmr := hide hmr
      obtain ⟨s1, s2, s3, s4⟩ := stB_in B hl hlm hm k
      by_cases hlt : k < n
      · obtain ⟨bl, off, rfl, hbl, hcs⟩ := hB.out k hlt
        have hc : wr.cell? ⟨bl, off + k, none⟩ = some (.bool (B k)) := (hmr.out.below.cell (p := ⟨bl, off + k, none⟩) hbl).trans (hcs k hlt)
        replace hcs := hide hcs
        cases hBk : B k with
        | true =>
          have q1 := hide (stB_yes (l := l) (m := m) hBk)
          rw [hBk] at hc
          replace hBk := hide hBk
          go_wp2_with fail
          refine (fail_any q l m _ _ _ hbo.out im ⟨by omega, by omega⟩ s3 (by omega)).mono ?_
          rintro e w5 ⟨rfl, hb5, hm5⟩
          replace hm5 := hide hm5
          replace hb5 := hide hb5
          go_wp2
          go_roundw
          case rel => exact ⟨k + 1, by omega, by go_num, by rw [q1.out]; exact hb5.out, hm5.out.heap hbo2.out (by omega), hmr.out.into hm5.out fun x hx => Or.inr (by omega)⟩
          case measure => simp [intOf]; omega
        | false =>
          have q1 := hide (stB_no (l := l) (m := m) hBk)
          rw [hBk] at hc
          replace hBk := hide hBk
          go_wp2_with fail
          refine (good_any q l m _ _ _ hbo.out).mono ?_
          rintro e w5 ⟨rfl, hb5, hm5⟩
          replace hm5 := hide hm5
          replace hb5 := hide hb5
          go_wp2
          go_roundw
          case rel => exact ⟨k + 1, by omega, by go_num, by rw [q1.out]; exact hb5.out, hm5.out.heap hbo2.out (by omega), hmr.out.into hm5.out fun x hx => Or.inr (by omega)⟩
          case measure => simp [intOf]; omega
      · go_wp2_with fail
        refine (now_any p _ _ _ _ _ hbo2.out).mono ?_
        rintro e w' ⟨rfl, rfl⟩
        go_wp2_with fail
        refine (times_any p _ _ _ _ _ hbo2.out).mono ?_
        rintro e w' ⟨rfl, rfl⟩
        go_wp2_with fail
        refine (good_any q l m _ _ _ hbo.out).mono ?_
        rintro e w5 ⟨rfl, hb5, hm5⟩
        replace hbo2 := hide (hm5.heap hbo2.out (by omega))
        replace hm5 := hide (hmr.out.into hm5 fun x hx => Or.inr (by omega))
        replace hb5 := hide hb5
        clear hmr
        have hc20 : c % 20 < 20 := Int.emod_lt_of_pos _ (by omega)
        have hc0 : 0 ≤ c % 20 := Int.emod_nonneg _ (by omega)
        go_wp2_with fail
        go_loopw [95] (fun i wz => ∃ j : Nat, (j : Int) ≤ c % 20 ∧ i = .int .u8 j ∧ BO wz q l m (grown m l j) j ∧ BO wz p l m (grown m l j) j ∧ Mod NoB w wz)
          (fun i _ => 20 - (intOf i).toNat)
        case atStart => exact ⟨0, by omega, rfl, hb5.out, hbo2.out, hm5.out⟩
        case round =>
          obtain ⟨j, hj, rfl, hbz, hby, hmz⟩ := hrel
          replace hbz := hide hbz
          replace hby := hide hby
          replace hmz := hide hmz
          obtain ⟨g1, g2⟩ := grown_in hl hm (Int.le_refl l) hlm j
          by_cases hj2 : (j : Int) < c % 20
          · go_wp2_with fail
            refine (fail_any q l m _ _ _ hbz.out im ⟨by omega, by omega⟩ (by omega) (by omega)).mono ?_
            rintro e w5 ⟨rfl, hb5, hm5⟩
            replace hby := hide (hm5.heap hby.out (by omega))
            replace hm5 := hide (hmz.out.into hm5 fun x hx => Or.inr (by omega))
            replace hb5 := hide hb5
            go_wp2_with fail
            refine (fail_any p l m _ _ _ hby.out im ⟨by omega, by omega⟩ (by omega) (by omega)).mono ?_
            rintro e w6 ⟨rfl, hb6, hm6⟩
            replace hb5 := hide (hm6.heap hb5.out (by omega))
            replace hm6 := hide (hm5.out.into hm6 fun x hx => Or.inr (by omega))
            replace hb6 := hide hb6
            go_wp2_with fail
            refine (times_any q _ _ _ _ _ hb5.out).mono ?_
            rintro e w' ⟨rfl, rfl⟩
            go_wp2_with fail
            refine (times_any p _ _ _ _ _ hb6.out).mono ?_
            rintro e w' ⟨rfl, rfl⟩
            go_wp2
            go_roundw
            case rel => exact ⟨j + 1, by omega, by go_num, hb5.out, hb6.out, hm6.out⟩
            case measure => simp [intOf]; omega
          · go_wp2_with fail
            refine (alive_any _).mono ?_
            rintro e w7 ⟨rfl, hm7⟩
            replace hm7 := hide (hmz.out.trans hm7)
            go_wp2
            go_ret
            exact ⟨rfl, hm7.out⟩

theorem own : ownKnob Try.prog.godebug = none := by kernel_rfl

set_option maxRecDepth 100000 in
theorem lifted (os : Os) (started : os.Started) (H : Type) (enc : TypeId × Value → H) :
    ReturnsInHanded {} Try.checked os 7 .any (Rows.backoffTwoSpec.pre6 enc Try.prog Try.f7 Rows.backoffTwoRow.domain false) (Rows.backoffTwoSpec.post enc Try.prog Try.f7 false true false false) := by
  refine law_lifted (C := Try.checked) (bt := 4) own started (by kernel_rfl) Try.func7 (by kernel_rfl) (by kernel_rfl) (by kernel_rfl) Try.underlying4 rfl ?_
    (ChangeSpec.witness6 (enc := enc) (C := Try.checked) false ⟨#[], #[.agg #[.int .u16 0, .int .u16 0], .slice none 0 0, .int .u8 0], []⟩ 8 (by kernel_rfl) (by kernel_rfl) (by kernel_rfl) (by kernel_rfl)) ?_
  · intro ds h
    match ds, h with
    | [d0, d1, d2], _ => rfl
  · intro W base args ds ps hval0 hA0 _
    have hval : ∀ (j : Nat) t v, Try.f7.params[j]? = some t → args[j]? = some v → Value.okWide Try.prog W .any base t v := hval0
    have hA : DataW.TrodAll enc Try.prog W 0 (fun _ => true) true Try.f7.params.toList args.toList ds ps := hA0
    rw [Try.params7] at hA hval
    obtain ⟨v0, v1, v2, d0, d1, d2, p0, p1, p2, rfl, rfl, rfl, h0, h1, h2⟩ := trodAll_three hA
    obtain ⟨xs, hlen, rfl, hwf⟩ := open_intArr Try.underlying34 Try.underlying25 (by kernel_rfl) (by kernel_rfl) (hval 0 _ _ rfl rfl) h0
    obtain ⟨x, n, cap, B, rfl, hn, hB⟩ := open_boolsAt Try.underlying27 Try.underlying4 (by kernel_rfl) (hval 1 _ _ rfl rfl) h1
    obtain ⟨c, rfl, rfl, rfl, wc⟩ := open_int Try.underlying5 (hval 2 _ _ rfl rfl) h2
    match xs, hlen with
    | [a, b], _ =>
      have wa := bounds_u16 (hwf 0 (by omega))
      have wb := bounds_u16 (hwf 1 (by omega))
      have wc2 := bounds_u8 wc
      exact walk a b c wa.1 wa.2 wb.1 wb.2 wc2.1 wc2.2 x n cap hn B W hB

theorem proved : Rows.BackoffTwoSaid :=
  OpenClaim.holds_of_wide 7 Try.f7 rfl rfl rfl rfl rfl rfl rfl ⟨rfl, rfl, rfl, rfl, rfl⟩ rfl rfl rfl rfl rfl (by kernel_rfl) Try.func7 (by kernel_rfl)
    (of_decide_eq_true (by kernel_rfl)) (by unfold Func.isWrapper; first | (rw [if_pos (by decide +kernel)]; kernel_rfl) | (rw [if_neg (by decide +kernel)]; exact ⟨rfl, rfl⟩))
    (fun os started H enc _ => lifted os started H enc)
#print axioms proved
end Go.Proofs.Ytlcnahnondgofaa.backoffTwo
