/- Package chronobateref16: the document's text of counts; chronobatelaw16's example. -/
import Derived.Test.YtffcklhoeejlfaaDoorCoD
namespace Go.Proofs.YtffcklhoeejlfaaDoor
open Go.RowKit

theorem join_snoc (xs : List (List UInt8)) (y sep : List UInt8) : Lib.join (xs ++ [y]) sep = if xs = [] then y else Lib.join xs sep ++ sep ++ y := by
  cases xs with
  | nil => simp [Lib.join_one]
  | cons x r =>
    rw [if_neg (by simp), List.cons_append, Lib.join_cons, Lib.join_cons]
    simp [Lib.joinTail]

theorem itoa_nat (m : Nat) : Lib.itoa (m : Int) = Lib.decDigits m := by
  unfold Lib.itoa
  rw [if_neg (by omega)]
  simp

theorem ents_ne (c : List Int) (k : Nat) : ∀ s ∈ ents c k, s ≠ [] := by
  intro s hs
  simp only [ents, List.mem_flatMap, List.mem_range] at hs
  obtain ⟨i, _, hs⟩ := hs
  split at hs
  · simp only [List.mem_singleton] at hs
    subst hs
    simp
  · cases hs

theorem join_ne {xs : List (List UInt8)} {sep : List UInt8} (h : ∀ s ∈ xs, s ≠ []) : (Lib.join xs sep).isEmpty = decide (xs = []) := by
  cases xs with
  | nil => rfl
  | cons x r =>
    have := h x (by simp)
    rw [Lib.join_cons]
    cases x with
    | nil => exact absurd rfl this
    | cons a l => simp

set_option maxHeartbeats 2000000 in
theorem rtext_any (c : List Int) (hl : c.length = 13) (w : World) (hc : ∀ k, 0 ≤ c.getD k 0 ∧ c.getD k 0 ≤ 9007199254740992) :
    Calls Tryd.prog 13 #[ints c] w fun e w' => e = .returned (.string (bs (Lib.join (ents c 13) [44, 32]))) ∧ Mod NoB w w' := by
  have hbox : ∀ k, k < 13 → (w.alloc (.cells (c.map (Value.int .i64)).toArray 26)).cell? ⟨w.heap.size, k, none⟩ = some (.int .i64 (c.getD k 0)) := by
    intro k hk
    refine cell_of_block (heap_alloc_new w _) k ?_
    simp [List.getD, hl, hk]
  replace hbox := hide hbox
  replace hl := hide hl
  obtain ⟨cv, hcv⟩ : ∃ cv, c.map (Value.int .i64) = cv := ⟨_, rfl⟩
  unfold ints
  rw [hcv]
  rw [hcv] at hbox
  replace hcv := hide hcv
  go_enter Tryd.func13, Tryd.ntmps13
  go_wp2_with fail
  obtain ⟨W1, hW1⟩ : ∃ W1, w.alloc (.cells cv.toArray 26) = W1 := ⟨_, rfl⟩
  have hmW := hide ((Mod.refl NoB w).alloc (.cells cv.toArray 26))
  have hszW : w.heap.size < W1.heap.size := by rw [← hW1]; simp
  rw [hW1] at hbox hmW ⊢
  replace hW1 := hide hW1
  go_loopw [3, 4] (fun s i wr => ∃ k : Nat, k ≤ 13 ∧ i = .int .i64 k ∧ s = .string (bs (Lib.join (ents c k) [44, 32])) ∧ Mod NoB W1 wr) (fun _ i _ => 13 - (intOf i).toNat)
  case atStart => exact ⟨0, by omega, rfl, rfl, Mod.refl _ _⟩
  case round =>
    obtain ⟨k, hk, rfl, rfl, hmr⟩ := hrel
    by_cases hlt : k < 13
    · have hbk := hmr.cellAt id (hbox.out k hlt)
      obtain ⟨x1, x2⟩ := hc k
      have hnx := hide (ents_succ c k)
      have hel := ents_len c k
      have hjl := join_le (ents c k) [44, 32] 30 (ents_each c hc k)
      have hje := join_ne (sep := [44, 32]) (ents_ne c k)
      have hjs := hide (join_snoc (ents c k) (nameL.getD k [] ++ [32] ++ Lib.itoa (c.getD k 0)) [44, 32])
      replace hjl : (Lib.join (ents c k) [44, 32]).length ≤ 13 * 32 := Nat.le_trans hjl (Nat.mul_le_mul (Nat.le_trans hel hk) (Nat.le_refl 32))
      replace hmr := hide hmr
      replace hc := hide hc
      generalize c.getD k 0 = x at hbk x1 x2 hnx hjs
      by_cases h0 : x = 0
      · subst h0
        go_wp2
        go_roundw
        case rel => exact ⟨k + 1, by omega, by go_num, by rw [hnx.out]; simp, hmr.out⟩
        case measure => simp [intOf]; omega
      · have hpos : 0 < x := by omega
        have hx0 : (x == 0) = false := by simpa using h0
        clear h0
        obtain ⟨m, rfl⟩ := Int.eq_ofNat_of_zero_le x1
        have hil := Lib.itoa_length_le m (by omega) (by omega)
        have hid := hide (itoa_nat m)
        rw [hid.out] at hil
        have hnl := nameL_len k
        obtain ⟨nm, hnm⟩ : ∃ nm, nameL.getD k [] = nm := ⟨_, rfl⟩
        rw [hnm] at hnx hnl hjs
        rw [hid.out] at hnx hjs
        replace hnm := hide hnm
        have hboxA : ∀ w'', Mod NoB wr w'' → w''.cell? ⟨w.heap.size, k, none⟩ = some (.int .i64 m) := fun w'' hmm => hmm.cellAt id hbk
        obtain ⟨J, hJ⟩ : ∃ J, Lib.join (ents c k) [44, 32] = J := ⟨_, rfl⟩
        obtain ⟨D, hD⟩ : ∃ D, Lib.decDigits m = D := ⟨_, rfl⟩
        rw [hJ] at hjl hje hjs
        rw [hD] at hil hnx hjs
        rw [hJ]
        replace hJ := hide hJ
        replace hD := hide hD
        have goal : ∀ (pre : List UInt8), (if ents c k = [] then pre = J else pre = J ++ [44, 32]) → bs pre ++ bs nm ++ ⟨#[32]⟩ ++ bs D = bs (Lib.join (ents c (k + 1)) [44, 32]) := by
          intro pre hpre
          rw [hnx.out, if_pos hpos, hjs.out]
          have e1 : bs pre ++ bs nm ++ ⟨#[32]⟩ ++ bs D = bs (pre ++ nm ++ [32] ++ D) :=
            (congrArg (fun z => z ++ ⟨#[32]⟩ ++ bs D) (bytes_append pre nm)).trans ((congrArg (· ++ bs D) (bytes_append (pre ++ nm) [32])).trans (bytes_append _ D))
          rw [e1]
          by_cases he : ents c k = []
          · rw [if_pos he] at hpre
            have hj0 : J = [] := by rw [← hJ.out, he]; rfl
            rw [if_pos he, hpre, hj0]
            simp
          · rw [if_neg he] at hpre
            rw [if_neg he, hpre]
            simp
        replace goal := hide goal
        by_cases he : ents c k = []
        · have hee : decide (ents c k = []) = true := by simpa using he
          replace he := hide he
          have q1 : (9223372036854775807 < J.length + nm.length) = False := by simp; omega
          have q2 : (9223372036854775807 < J.length + nm.length + 1) = False := by simp; omega
          have q3 : (9223372036854775807 < J.length + nm.length + 1 + D.length) = False := by simp; omega
          go_wp2_with fail
          go_region_law (first
            | (go_simp; go_at_call 14; refine (rnames_any _).mono ?_; rintro e w5 ⟨r, cap, rfl, hcs, hr1, hr2, hm5⟩; replace hm5 : Mod NoB wr w5 := ((Mod.refl _ _).drew.trans hm5); have hcA := hcs k hlt; rw [hnm.out] at hcA; have hcB : ∀ w'', Mod NoB w5 w'' → w''.cell? ⟨r, k, none⟩ = some (.string (bs nm)) := (fun w'' hmm => hmm.cellAt id hcA); have hboxB := hboxA _ hm5; replace hcs := hide hcs)
            | (go_simp; go_at_call 15; refine (dec_any m (by omega) _).mono ?_; rintro e w6 ⟨rfl, hm6⟩; rw [hD.out]; have hm56 := hm5.trans hm6))
          all_goals
            have g := goal.out J (by rw [if_pos he.out])
            replace g := hide g
            replace hm56 := hide hm56
            clear hm5 hm6 hcB hcA hboxA
            go_wp2
            go_roundw
            case rel => exact ⟨k + 1, by omega, by go_num, by rw [← g.out], hmr.out.trans hm56.out⟩
            case measure => simp [intOf]; omega
        · have hee : decide (ents c k = []) = false := by simpa using he
          replace he := hide he
          have q1 : (9223372036854775807 < J.length + 2 + nm.length) = False := by simp; omega
          have q2 : (9223372036854775807 < J.length + 2 + nm.length + 1) = False := by simp; omega
          have q3 : (9223372036854775807 < J.length + 2 + nm.length + 1 + D.length) = False := by simp; omega
          go_wp2_with fail
          go_region_law (first
            | (go_simp; go_at_call 14; refine (rnames_any _).mono ?_; rintro e w5 ⟨r, cap, rfl, hcs, hr1, hr2, hm5⟩; replace hm5 : Mod NoB wr w5 := ((Mod.refl _ _).drew.trans hm5); have hcA := hcs k hlt; rw [hnm.out] at hcA; have hcB : ∀ w'', Mod NoB w5 w'' → w''.cell? ⟨r, k, none⟩ = some (.string (bs nm)) := (fun w'' hmm => hmm.cellAt id hcA); have hboxB := hboxA _ hm5; replace hcs := hide hcs)
            | (go_simp; go_at_call 15; refine (dec_any m (by omega) _).mono ?_; rintro e w6 ⟨rfl, hm6⟩; rw [hD.out]; have hm56 := hm5.trans hm6))
          all_goals
            have g := goal.out (J ++ [44, 32]) (by rw [if_neg he.out])
            replace g := hide g
            replace hm56 := hide hm56
            clear hm5 hm6 hcB hcA hboxA
            go_wp2
            go_roundw
            case rel => exact ⟨k + 1, by omega, by go_num, by rw [← g.out]; exact congrArg (fun z => Value.string (z ++ bs nm ++ ⟨#[32]⟩ ++ bs D)) (bytes_append J [44, 32]), hmr.out.trans hm56.out⟩
            case measure => simp [intOf]; omega
    · obtain rfl : k = 13 := by omega
      replace hc := hide hc
      go_wp2
      go_ret
      exact ⟨rfl, hmW.out.trans hmr⟩
end Go.Proofs.YtffcklhoeejlfaaDoor
