/- Of any two numbers and any calls each answer of a backoff is the document's, or why there is none. No condition. -/
import Derived.Test.YtlcnahnondgofaaBkE
namespace Go.Proofs.Ytlcnahnondgofaa.backoffActs
open Go.ChangeShapes Go.WideShapes Go.ChangeAt Go.RowKit Go.Proofs.Ytlcnahnondgofaa

theorem bad1 (l m : Int) (hl : I64 l) (hm : I64 m) (h : l < 4 ∨ 1024 < l ∨ m < 4 ∨ 1024 < m) (x : Option Addr) (n cap : Nat) (w : World) :
    Calls Try.prog 5 #[.int .i64 l, .int .i64 m, .slice x n cap] w fun e w' => e = .returned (.bool true) ∧ Mod NoB w w' := by
  go_enter Try.func5, Try.ntmps5
  go_wp2_with fail
  refine (new_range l m hl hm h _).mono ?_
  rintro e w' ⟨rfl, rfl⟩
  go_wp2_with fail
  refine (rnew_any l m hl hm _).mono ?_
  rintro e w' ⟨rfl, rfl⟩
  rw [if_pos h]
  go_wp2_with fail
  refine (now_nil _).mono ?_
  rintro e w' ⟨rfl, rfl⟩
  go_wp2_with fail
  refine (fail_nil _).mono ?_
  rintro e w2 ⟨rfl, hm2⟩
  replace hm2 := hide hm2
  go_wp2_with fail
  refine (good_nil _).mono ?_
  rintro e w3 ⟨rfl, hm3⟩
  replace hm3 := hide hm3
  go_wp2_with fail
  refine (times_nil _).mono ?_
  rintro e w' ⟨rfl, rfl⟩
  go_wp2_with fail
  refine (alive_any _).mono ?_
  rintro e w4 ⟨rfl, hm4⟩
  replace hm4 := hide hm4
  go_wp2
  go_ret
  exact ⟨rfl, (hm2.out.trans hm3.out).trans hm4.out⟩

theorem bad2 (l m : Int) (hl : I64 l) (hm : I64 m) (hr : ¬ (l < 4 ∨ 1024 < l ∨ m < 4 ∨ 1024 < m)) (h : m < l) (x : Option Addr) (n cap : Nat) (w : World) :
    Calls Try.prog 5 #[.int .i64 l, .int .i64 m, .slice x n cap] w fun e w' => e = .returned (.bool true) ∧ Mod NoB w w' := by
  have h1 : (decide (4 ≤ l) && decide (l ≤ 1024)) = true := by simp; omega
  have h2 : (decide (4 ≤ m) && decide (m ≤ 1024)) = true := by simp; omega
  replace hr := hide hr
  go_enter Try.func5, Try.ntmps5
  go_wp2_with fail
  refine (new_order l m hl hm h1 h2 h _).mono ?_
  rintro e w' ⟨rfl, rfl⟩
  go_wp2_with fail
  refine (rnew_any l m hl hm _).mono ?_
  rintro e w' ⟨rfl, rfl⟩
  rw [if_neg hr.out, if_pos h]
  go_wp2_with fail
  refine (now_nil _).mono ?_
  rintro e w' ⟨rfl, rfl⟩
  go_wp2_with fail
  refine (fail_nil _).mono ?_
  rintro e w2 ⟨rfl, hm2⟩
  replace hm2 := hide hm2
  go_wp2_with fail
  refine (good_nil _).mono ?_
  rintro e w3 ⟨rfl, hm3⟩
  replace hm3 := hide hm3
  go_wp2_with fail
  refine (times_nil _).mono ?_
  rintro e w' ⟨rfl, rfl⟩
  go_wp2_with fail
  refine (alive_any _).mono ?_
  rintro e w4 ⟨rfl, hm4⟩
  replace hm4 := hide hm4
  go_wp2
  go_ret
  exact ⟨rfl, (hm2.out.trans hm3.out).trans hm4.out⟩

theorem good (l m : Int) (hl : 4 ≤ l) (hlm : l ≤ m) (hm : m ≤ 1024) (x : Option Addr) (n cap : Nat) (hn : n ≤ 9223372036854775807) (B : Nat → Bool) (w : World) (hB : BoolsAt w x n B) :
    Calls Try.prog 5 #[.int .i64 l, .int .i64 m, .slice x n cap] w fun e w' => e = .returned (.bool true) ∧ Mod NoB w w' := by
  have h1 : (decide (4 ≤ l) && decide (l ≤ 1024)) = true := by simp; omega
  have h2 : (decide (4 ≤ m) && decide (m ≤ 1024)) = true := by simp; omega
  have il : I64 l := ⟨by omega, by omega⟩
  have im : I64 m := ⟨by omega, by omega⟩
  by_cases hn3 : 300 < n
  · replace h1 := hide h1
    replace h2 := hide h2
    go_enter Try.func5, Try.ntmps5
    go_wp2_with fail
    refine (new_ok l m il im h1.out h2.out hlm _).mono ?_
    rintro e w1 ⟨b, rfl, hle, hb, hm1⟩
    replace hm1 := hide hm1
    replace hb := hide hb
    go_wp2_with fail
    refine (rnew_any l m il im _).mono ?_
    rintro e w' ⟨rfl, rfl⟩
    rw [if_neg (by omega), if_neg (by omega)]
    go_wp2_with fail
    refine (now_nil _).mono ?_
    rintro e w' ⟨rfl, rfl⟩
    go_wp2_with fail
    refine (fail_nil _).mono ?_
    rintro e w2 ⟨rfl, hm2⟩
    replace hm2 := hide hm2
    go_wp2_with fail
    refine (good_nil _).mono ?_
    rintro e w3 ⟨rfl, hm3⟩
    replace hm3 := hide hm3
    go_wp2_with fail
    refine (times_nil _).mono ?_
    rintro e w' ⟨rfl, rfl⟩
    go_wp2_with fail
    refine (alive_any _).mono ?_
    rintro e w4 ⟨rfl, hm4⟩
    replace hm4 := hide hm4
    go_wp2
    go_ret
    exact ⟨rfl, ((hm1.out.trans hm2.out).trans hm3.out).trans hm4.out⟩
  · replace h1 := hide h1
    replace h2 := hide h2
    replace hB := hide hB
    go_enter Try.func5, Try.ntmps5
    go_wp2_with fail
    refine (new_ok l m il im h1.out h2.out hlm _).mono ?_
    rintro e w1 ⟨b, rfl, hle, hb, hm1⟩
    replace hm1 := hide hm1
    replace hb := hide hb
    go_wp2_with fail
    refine (rnew_any l m il im _).mono ?_
    rintro e w' ⟨rfl, rfl⟩
    rw [if_neg (by omega), if_neg (by omega)]
    go_wp2_with fail
    refine (now_nil _).mono ?_
    rintro e w' ⟨rfl, rfl⟩
    go_wp2_with fail
    refine (fail_nil _).mono ?_
    rintro e w2 ⟨rfl, hm2⟩
    replace hm2 := hide hm2
    go_wp2_with fail
    refine (good_nil _).mono ?_
    rintro e w3 ⟨rfl, hm3⟩
    replace hm3 := hide hm3
    go_wp2_with fail
    refine (times_nil _).mono ?_
    rintro e w' ⟨rfl, rfl⟩
    go_wp2_with fail
    have hb3 := hide (hm3.out.heap (hm2.out.heap hb.out id) id)
    have hm13 := hide ((hm1.out.trans hm2.out).trans hm3.out)
    clear hb hm1 hm2 hm3
    go_loopw [11, 12, 65] (fun v t i wr => ∃ k : Nat, k ≤ n ∧ i = .int .i64 k ∧ v = .int .i64 (stB l m B k).1 ∧ t = .int .i64 (stB l m B k).2 ∧ BO wr b l m (stB l m B k).1 (stB l m B k).2 ∧ Mod NoB w wr)
      (fun _ _ i _ => n - (intOf i).toNat)
    case atStart => exact ⟨0, by omega, rfl, rfl, rfl, hb3.out, hm13.out⟩
    case round =>
      obtain ⟨k, hk, rfl, rfl, rfl, hbo, hmr⟩ := hrel
      replace hbo := hide hbo
      replace hmr := hide hmr
      obtain ⟨s1, s2, s3, s4⟩ := stB_in B hl hlm hm k
      by_cases hlt : k < n
      · obtain ⟨bl, off, rfl, hbl, hcs⟩ := hB.out k hlt
        have hc : wr.cell? ⟨bl, off + k, none⟩ = some (.bool (B k)) := (hmr.out.below.cell (p := ⟨bl, off + k, none⟩) hbl).trans (hcs k hlt)
        replace hcs := hide hcs
        cases hBk : B k with
        | true =>
          have q := hide (stB_yes (l := l) (m := m) hBk)
          rw [hBk] at hc
          replace hBk := hide hBk
          go_wp2_with fail
          refine (rnext_any _ _ ⟨by omega, by omega⟩ im _).mono ?_
          rintro e w' ⟨rfl, rfl⟩
          go_wp2_with fail
          refine (fail_any b l m _ _ _ hbo.out im ⟨by omega, by omega⟩ s3 (by omega)).mono ?_
          rintro e w5 ⟨rfl, hb5, hm5⟩
          replace hm5 := hide hm5
          replace hb5 := hide hb5
          go_wp2_with fail
          refine (now_any b _ _ _ _ _ hb5.out).mono ?_
          rintro e w' ⟨rfl, rfl⟩
          go_wp2_with fail
          refine (times_any b _ _ _ _ _ hb5.out).mono ?_
          rintro e w' ⟨rfl, rfl⟩
          go_wp2
          go_roundw
          case rel => exact ⟨k + 1, by omega, by go_num, by rw [q.out], by rw [q.out], by rw [q.out]; exact hb5.out, hmr.out.into hm5.out fun x hx => Or.inr (by omega)⟩
          case measure => simp [intOf]; omega
        | false =>
          have q := hide (stB_no (l := l) (m := m) hBk)
          rw [hBk] at hc
          replace hBk := hide hBk
          go_wp2_with fail
          refine (good_any b l m _ _ _ hbo.out).mono ?_
          rintro e w5 ⟨rfl, hb5, hm5⟩
          replace hm5 := hide hm5
          replace hb5 := hide hb5
          go_wp2_with fail
          refine (now_any b _ _ _ _ _ hb5.out).mono ?_
          rintro e w' ⟨rfl, rfl⟩
          go_wp2_with fail
          refine (times_any b _ _ _ _ _ hb5.out).mono ?_
          rintro e w' ⟨rfl, rfl⟩
          go_wp2
          go_roundw
          case rel => exact ⟨k + 1, by omega, by go_num, by rw [q.out], by rw [q.out], by rw [q.out]; exact hb5.out, hmr.out.into hm5.out fun x hx => Or.inr (by omega)⟩
          case measure => simp [intOf]; omega
      · go_wp2_with fail
        refine (alive_any _).mono ?_
        rintro e w4 ⟨rfl, hm4⟩
        replace hm4 := hide hm4
        go_wp2
        go_ret
        exact ⟨rfl, hmr.out.trans hm4.out⟩

theorem walk (l m : Int) (hl : I64 l) (hm : I64 m) (x : Option Addr) (n cap : Nat) (hn : n ≤ 9223372036854775807) (B : Nat → Bool) (w : World) (hB : BoolsAt w x n B) :
    Calls Try.prog 5 #[.int .i64 l, .int .i64 m, .slice x n cap] w fun e w' => e = .returned (.bool true) ∧ Mod NoB w w' := by
  by_cases h : l < 4 ∨ 1024 < l ∨ m < 4 ∨ 1024 < m
  · exact bad1 l m hl hm h x n cap w
  · by_cases h2 : m < l
    · exact bad2 l m hl hm h h2 x n cap w
    · exact good l m (by omega) (by omega) (by omega) x n cap hn B w hB

theorem own : ownKnob Try.prog.godebug = none := by kernel_rfl

set_option maxRecDepth 100000 in
theorem lifted (os : Os) (started : os.Started) (H : Type) (enc : TypeId × Value → H) :
    ReturnsInHanded {} Try.checked os 5 .any (Rows.backoffActsSpec.pre6 enc Try.prog Try.f5 Rows.backoffActsRow.domain false) (Rows.backoffActsSpec.post enc Try.prog Try.f5 false true false false) := by
  refine law_lifted (C := Try.checked) (bt := 4) own started (by kernel_rfl) Try.func5 (by kernel_rfl) (by kernel_rfl) (by kernel_rfl) Try.underlying4 rfl ?_
    (ChangeSpec.witness6 (enc := enc) (C := Try.checked) false ⟨#[], #[.int .i64 0, .int .i64 0, .slice none 0 0], []⟩ 8 (by kernel_rfl) (by kernel_rfl) (by kernel_rfl) (by kernel_rfl)) ?_
  · intro ds h
    match ds, h with
    | [d0, d1, d2], _ => rfl
  · intro W base args ds ps hval0 hA0 _
    have hval : ∀ (j : Nat) t v, Try.f5.params[j]? = some t → args[j]? = some v → Value.okWide Try.prog W .any base t v := hval0
    have hA : DataW.TrodAll enc Try.prog W 0 (fun _ => true) true Try.f5.params.toList args.toList ds ps := hA0
    rw [Try.params5] at hA hval
    obtain ⟨v0, v1, v2, d0, d1, d2, p0, p1, p2, rfl, rfl, rfl, h0, h1, h2⟩ := trodAll_three hA
    obtain ⟨a, rfl, rfl, rfl, wa⟩ := open_int Try.underlying3 (hval 0 _ _ rfl rfl) h0
    obtain ⟨b, rfl, rfl, rfl, wb⟩ := open_int Try.underlying3 (hval 1 _ _ rfl rfl) h1
    obtain ⟨x, n, cap, B, rfl, hn, hB⟩ := open_boolsAt Try.underlying27 Try.underlying4 (by kernel_rfl) (hval 2 _ _ rfl rfl) h2
    exact walk a b (i64_of_wf wa) (i64_of_wf wb) x n cap hn B W hB

theorem proved : Rows.BackoffActsSaid :=
  OpenClaim.holds_of_wide 5 Try.f5 rfl rfl rfl rfl rfl rfl rfl ⟨rfl, rfl, rfl, rfl, rfl⟩ rfl rfl rfl rfl rfl (by kernel_rfl) Try.func5 (by kernel_rfl)
    (of_decide_eq_true (by kernel_rfl)) (by unfold Func.isWrapper; first | (rw [if_pos (by decide +kernel)]; kernel_rfl) | (rw [if_neg (by decide +kernel)]; exact ⟨rfl, rfl⟩))
    (fun os started H enc _ => lifted os started H enc)
#print axioms proved
end Go.Proofs.Ytlcnahnondgofaa.backoffActs
