/- A backoff between any two numbers that may be never is below the least one, nor above the greatest one, nor falls but by Good; by ten Fails it is the greatest one. No condition. -/
import Derived.Test.YtlcnahnondgofaaBkE
import Derived.Test.YtlcnahnondgofaaKit2
namespace Go.Proofs.Ytlcnahnondgofaa.backoffBounds
open Go.ChangeShapes Go.WideShapes Go.ChangeAt Go.RowKit Go.Proofs.Ytlcnahnondgofaa

/-- k Fails. -/
def failN (m : Int) : Nat → Int → Int
  | 0, n => n
  | k + 1, n => failN m k (nextZ n m)

theorem nextZ_in {l m n : Int} (h1 : 4 ≤ l) (h3 : m ≤ 1024) (hn : l ≤ n) (hnm : n ≤ m) : l ≤ nextZ n m ∧ nextZ n m ≤ m ∧ (n < nextZ n m ∨ (nextZ n m = n ∧ n = m)) ∧ (nextZ n m = m ∨ nextZ n m = 2 * n) := by
  unfold nextZ
  rw [if_neg (by omega)]
  split <;> omega

/-- What k Fails make of n, told by halves: m, or 2 ^ k times n. -/
def grown (m : Int) (n : Int) : Nat → Int
  | 0 => n
  | k + 1 => nextZ (grown m n k) m

theorem grown_in {l m n : Int} (h1 : 4 ≤ l) (h3 : m ≤ 1024) (hn : l ≤ n) (hnm : n ≤ m) (k : Nat) : l ≤ grown m n k ∧ grown m n k ≤ m ∧ (grown m n k = m ∨ 2 ^ k * n ≤ grown m n k) := by
  induction k with
  | zero => exact ⟨hn, hnm, Or.inr (by simp [grown])⟩
  | succ k ih =>
    obtain ⟨a, b, c⟩ := ih
    obtain ⟨p, q, r, s⟩ := nextZ_in h1 h3 a b
    refine ⟨p, q, ?_⟩
    simp only [grown]
    rcases s with s | s
    · exact Or.inl s
    · rcases c with c | c
      · exact Or.inl (by omega)
      · right
        rw [s, Int.pow_succ]
        have : 2 ^ k * 2 * n = 2 * (2 ^ k * n) := by rw [Int.mul_comm (2 ^ k) 2, Int.mul_assoc]
        omega

theorem grown_ten {l m n : Int} (h1 : 4 ≤ l) (h3 : m ≤ 1024) (hn : l ≤ n) (hnm : n ≤ m) : grown m n 10 = m := by
  obtain ⟨a, b, c⟩ := grown_in h1 h3 hn hnm 10
  rcases c with c | c
  · exact c
  · have : (2 : Int) ^ 10 = 1024 := by decide
    rw [this] at c
    omega

set_option maxHeartbeats 4000000 in
theorem walk (a b : Int) (ha : 0 ≤ a) (ha2 : a ≤ 65535) (hb : 0 ≤ b) (hb2 : b ≤ 65535) (x : Option Addr) (n cap : Nat) (hn : n ≤ 9223372036854775807) (B : Nat → Bool) (w : World) (hB : BoolsAt w x n B) :
    Calls Try.prog 6 #[.agg #[.int .u16 a, .int .u16 b], .slice x n cap] w fun e w' => e = .returned (.bool true) ∧ Mod NoB w w' := by
  have hq0 : 0 ≤ b % (1024 - (4 + a % 1021) + 1) := Int.emod_nonneg _ (by omega)
  have hq1 : b % (1024 - (4 + a % 1021) + 1) < 1024 - (4 + a % 1021) + 1 := Int.emod_lt_of_pos _ (by omega)
  obtain ⟨l, el⟩ : ∃ l, 4 + a % 1021 = l := ⟨_, rfl⟩
  rw [el] at hq0 hq1
  have hl : 4 ≤ l := by omega
  obtain ⟨m, em⟩ : ∃ m, l + b % (1024 - l + 1) = m := ⟨_, rfl⟩
  have hlm : l ≤ m := by omega
  have hm : m ≤ 1024 := by omega
  have h1 : Hid ((decide (4 ≤ l) && decide (l ≤ 1024)) = true) := hide (by simp; omega)
  have h2 : Hid ((decide (4 ≤ m) && decide (m ≤ 1024)) = true) := hide (by simp; omega)
  have il : I64 l := ⟨by omega, by omega⟩
  have im : I64 m := ⟨by omega, by omega⟩
  replace hB := hide hB
  by_cases hn3 : 300 < n
  · go_enter Try.func6, Try.ntmps6
    go_wp2_with fail
    refine (new_ok l m il im h1.out h2.out hlm _).mono ?_
    rintro e w1 ⟨q, rfl, hle, hb, hm1⟩
    replace hm1 := hide ((((Mod.refl NoB w).alloc _).trans hm1))
    replace hb := hide hb
    go_wp2_with fail
    refine (alive_any _).mono ?_
    rintro e w4 ⟨rfl, hm4⟩
    replace hm4 := hide hm4
    go_wp2
    go_ret
    exact ⟨rfl, hm1.out.trans hm4.out⟩
  · go_enter Try.func6, Try.ntmps6
    go_wp2_with fail
    refine (new_ok l m il im h1.out h2.out hlm _).mono ?_
    rintro e w1 ⟨q, rfl, hle, hb, hm1⟩
    replace hle : w.heap.size ≤ q := by simp at hle; omega
    replace hm1 := hide ((((Mod.refl NoB w).alloc _).trans hm1))
    replace hb := hide hb
    go_wp2_with fail
    go_loopw [51] (fun i wr => ∃ k : Nat, k ≤ n ∧ i = .int .i64 k ∧ BO wr q l m (stB l m B k).1 (stB l m B k).2 ∧ Mod NoB w wr)
      (fun i _ => n - (intOf i).toNat)
    case atStart => exact ⟨0, by omega, rfl, hb.out, hm1.out⟩
    case round =>
      obtain ⟨k, hk, rfl, hbo, hmr⟩ := hrel
      replace hbo := hide hbo
      replace hmr := hide hmr
      obtain ⟨s1, s2, s3, s4⟩ := stB_in B hl hlm hm k
      by_cases hlt : k < n
      · obtain ⟨bl, off, rfl, hbl, hcs⟩ := hB.out k hlt
        have hc : wr.cell? ⟨bl, off + k, none⟩ = some (.bool (B k)) := (hmr.out.below.cell (p := ⟨bl, off + k, none⟩) hbl).trans (hcs k hlt)
        replace hcs := hide hcs
        cases hBk : B k with
        | true =>
          have q1 := hide (stB_yes (l := l) (m := m) hBk)
          obtain ⟨t1, t2, t3, t4⟩ := nextZ_in hl hm s1 s2
          rw [hBk] at hc
          replace hBk := hide hBk
          replace t4 := hide t4
          obtain ⟨v, ev⟩ : ∃ v, nextZ (stB l m B k).1 m = v := ⟨_, rfl⟩
          obtain ⟨u, eu⟩ : ∃ u, (stB l m B k).1 = u := ⟨_, rfl⟩
          rw [ev] at t1 t2 t3
          rw [eu] at s1 s2 t3
          have d2 : (v == u) = false ∨ (v == u) = true ∧ u = m := by
            rcases t3 with t3 | t3
            · left; simp; omega
            · right; simp; omega
          have hlt2 : u ≤ v := by omega
          replace ev := hide ev
          replace eu := hide eu
          rcases d2 with d2 | ⟨d2, d3⟩
          all_goals
            clear t3
            go_wp2_with fail
            refine (now_any q _ _ _ _ _ hbo.out).mono ?_
            rintro e w' ⟨rfl, rfl⟩
            go_wp2_with fail
            refine (fail_any q l m _ _ _ hbo.out im ⟨by rw [eu.out]; omega, by rw [eu.out]; omega⟩ s3 (by omega)).mono ?_
            rintro e w5 ⟨rfl, hb5, hm5⟩
            replace hm5 := hide hm5
            replace hb5 := hide hb5
            rw [eu.out]
            try (have d4 : (u != m) = false := by simp [d3])
            try (replace d3 := hide d3)
            go_wp2_with fail
            refine (now_any q _ _ _ _ _ hb5.out).mono ?_
            rintro e w' ⟨rfl, rfl⟩
            rw [ev.out]
            go_wp2_with fail
            refine (now_any q _ _ _ _ _ hb5.out).mono ?_
            rintro e w' ⟨rfl, rfl⟩
            rw [ev.out]
            go_wp2_with fail
            refine (now_any q _ _ _ _ _ hb5.out).mono ?_
            rintro e w' ⟨rfl, rfl⟩
            rw [ev.out]
            go_wp2_with fail
            refine (now_any q _ _ _ _ _ hb5.out).mono ?_
            rintro e w' ⟨rfl, rfl⟩
            rw [ev.out]
            go_wp2
            go_roundw
            case rel => exact ⟨k + 1, by omega, by go_num, by rw [q1.out]; exact hb5.out, hmr.out.into hm5.out fun x hx => Or.inr (by omega)⟩
            case measure => simp [intOf]; omega
        | false =>
          have q1 := hide (stB_no (l := l) (m := m) hBk)
          rw [hBk] at hc
          replace hBk := hide hBk
          go_wp2_with fail
          refine (now_any q _ _ _ _ _ hbo.out).mono ?_
          rintro e w' ⟨rfl, rfl⟩
          go_wp2_with fail
          refine (good_any q l m _ _ _ hbo.out).mono ?_
          rintro e w5 ⟨rfl, hb5, hm5⟩
          replace hm5 := hide hm5
          replace hb5 := hide hb5
          go_wp2_with fail
          refine (now_any q _ _ _ _ _ hb5.out).mono ?_
          rintro e w' ⟨rfl, rfl⟩
          go_wp2_with fail
          refine (now_any q _ _ _ _ _ hb5.out).mono ?_
          rintro e w' ⟨rfl, rfl⟩
          go_wp2_with fail
          refine (now_any q _ _ _ _ _ hb5.out).mono ?_
          rintro e w' ⟨rfl, rfl⟩
          go_wp2
          go_roundw
          case rel => exact ⟨k + 1, by omega, by go_num, by rw [q1.out]; exact hb5.out, hmr.out.into hm5.out fun x hx => Or.inr (by omega)⟩
          case measure => simp [intOf]; omega
      · go_wp2_with fail
        obtain ⟨n0, e0⟩ : ∃ n0, (stB l m B k).1 = n0 := ⟨_, rfl⟩
        obtain ⟨t0, et0⟩ : ∃ t0, (stB l m B k).2 = t0 := ⟨_, rfl⟩
        rw [e0] at s1 s2
        rw [et0] at s3 s4
        have hbo2 : Hid (BO wr q l m n0 t0) := hide (by rw [← e0, ← et0]; exact hbo.out)
        clear e0 et0 hbo
        go_loopw [92] (fun i wz => ∃ j : Nat, j ≤ 10 ∧ i = .int .i64 j ∧ BO wz q l m (grown m n0 j) (t0 + j) ∧ Mod NoB w wz)
          (fun i _ => 10 - (intOf i).toNat)
        case atStart => exact ⟨0, by omega, rfl, by simpa [grown] using hbo2.out, hmr.out⟩
        case round =>
          obtain ⟨j, hj, rfl, hbz, hmz⟩ := hrel
          replace hbz := hide hbz
          replace hmz := hide hmz
          obtain ⟨g1, g2, g3⟩ := grown_in hl hm s1 s2 j
          replace g3 := hide g3
          by_cases hj2 : j < 10
          · go_wp2_with fail
            refine (fail_any q l m _ _ _ hbz.out im ⟨by omega, by omega⟩ (by omega) (by omega)).mono ?_
            rintro e w5 ⟨rfl, hb5, hm5⟩
            replace hm5 := hide hm5
            replace hb5 := hide hb5
            go_wp2
            go_roundw
            case rel => exact ⟨j + 1, by omega, by go_num, by have := hb5.out; rw [show t0 + ((j + 1 : Nat) : Int) = t0 + j + 1 by omega]; exact this, hmz.out.into hm5.out fun x hx => Or.inr (by omega)⟩
            case measure => simp [intOf]; omega
          · obtain rfl : j = 10 := by omega
            have hten := grown_ten hl hm s1 s2
            replace hbz : Hid (BO wr q l m m (t0 + (10 : Nat))) := hide (by have := hbz.out; rw [hten] at this; exact this)
            clear hten g1 g2 g3
            go_wp2_with fail
            refine (alive_any _).mono ?_
            rintro e w4 ⟨rfl, hm4⟩
            replace hbz := hide (hm4.heap hbz.out id)
            replace hm4 := hide hm4
            go_wp2_with fail
            refine (now_any q _ _ _ _ _ hbz.out).mono ?_
            rintro e w' ⟨rfl, rfl⟩
            go_wp2
            go_ret
            exact ⟨bool_ret (by first | rfl | simp), hmz.out.trans hm4.out⟩

theorem own : ownKnob Try.prog.godebug = none := by kernel_rfl

set_option maxRecDepth 100000 in
theorem lifted (os : Os) (started : os.Started) (H : Type) (enc : TypeId × Value → H) :
    ReturnsInHanded {} Try.checked os 6 .any (Rows.backoffBoundsSpec.pre6 enc Try.prog Try.f6 Rows.backoffBoundsRow.domain false) (Rows.backoffBoundsSpec.post enc Try.prog Try.f6 false true false false) := by
  refine law_lifted (C := Try.checked) (bt := 4) own started (by kernel_rfl) Try.func6 (by kernel_rfl) (by kernel_rfl) (by kernel_rfl) Try.underlying4 rfl ?_
    (ChangeSpec.witness6 (enc := enc) (C := Try.checked) false ⟨#[], #[.agg #[.int .u16 0, .int .u16 0], .slice none 0 0], []⟩ 8 (by kernel_rfl) (by kernel_rfl) (by kernel_rfl) (by kernel_rfl)) ?_
  · intro ds h
    match ds, h with
    | [d0, d1], _ => rfl
  · intro W base args ds ps hval0 hA0 _
    have hval : ∀ (j : Nat) t v, Try.f6.params[j]? = some t → args[j]? = some v → Value.okWide Try.prog W .any base t v := hval0
    have hA : DataW.TrodAll enc Try.prog W 0 (fun _ => true) true Try.f6.params.toList args.toList ds ps := hA0
    rw [Try.params6] at hA hval
    obtain ⟨v0, v1, d0, d1, p0, p1, rfl, rfl, rfl, h0, h1⟩ := trodAll_two hA
    obtain ⟨xs, hlen, rfl, hwf⟩ := open_intArr Try.underlying34 Try.underlying25 (by kernel_rfl) (by kernel_rfl) (hval 0 _ _ rfl rfl) h0
    obtain ⟨x, n, cap, B, rfl, hn, hB⟩ := open_boolsAt Try.underlying27 Try.underlying4 (by kernel_rfl) (hval 1 _ _ rfl rfl) h1
    match xs, hlen with
    | [a, b], _ =>
      have wa := bounds_u16 (hwf 0 (by omega))
      have wb := bounds_u16 (hwf 1 (by omega))
      exact walk a b wa.1 wa.2 wb.1 wb.2 x n cap hn B W hB

theorem proved : Rows.BackoffBoundsSaid :=
  OpenClaim.holds_of_wide 6 Try.f6 rfl rfl rfl rfl rfl rfl rfl ⟨rfl, rfl, rfl, rfl, rfl⟩ rfl rfl rfl rfl rfl (by kernel_rfl) Try.func6 (by kernel_rfl)
    (of_decide_eq_true (by kernel_rfl)) (by unfold Func.isWrapper; first | (rw [if_pos (by decide +kernel)]; kernel_rfl) | (rw [if_neg (by decide +kernel)]; exact ⟨rfl, rfl⟩))
    (fun os started H enc _ => lifted os started H enc)
#print axioms proved
end Go.Proofs.Ytlcnahnondgofaa.backoffBounds
