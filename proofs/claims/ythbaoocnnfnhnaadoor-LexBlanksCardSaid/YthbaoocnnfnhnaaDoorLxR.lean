/- lex.Text, and the document's. -/
import Derived.Test.YthbaoocnnfnhnaaDoorLxQ
import Derived.Laws.BytesArg
namespace Go.Proofs.YthbaoocnnfnhnaaDoor
open Go.RowKit

/-- A number's text. -/
def textOf (n : Int) : List UInt8 := if n < 0 ∨ 1000000000 < n then [] else Lib.decDigits n.toNat

theorem itoaw_any (n : Int) (h0 : -9223372036854775808 ≤ n) (h1 : n ≤ 9223372036854775807) (w : World) (hL : LaidN w) :
    Calls Tryd.prog 40 #[.int .i64 n] w fun e w' => e = .returned (.string (bs (Lib.itoa n))) ∧ Mod NoB w w' :=
  (Tryd.strconv_Itoa n h0 h1 w hL.pow).mono fun _ _ ⟨h1, k, os, h2⟩ => ⟨h1, by rw [h2]; exact ((Mod.refl NoB w).drewN k).grow os⟩

set_option maxHeartbeats 2000000 in
theorem text_any (n : Int) (h0 : -9223372036854775808 ≤ n) (h1 : n ≤ 9223372036854775807) (w : World) (hL : LaidN w) :
    Calls Tryd.prog 20 #[.int .i64 n] w fun e w' => e = .returned (.string (bs (textOf n))) ∧ Mod NoB w w' := by
  by_cases h : n < 0 ∨ 1000000000 < n
  · have ht : textOf n = [] := by simp [textOf, h]
    rw [ht]
    rcases h with h | h
    · go_enter Tryd.func20, Tryd.ntmps20
      go_wp2
      go_ret
      exact ⟨rfl, Mod.refl _ _⟩
    · have h' : ¬ n < 0 := by omega
      go_enter Tryd.func20, Tryd.ntmps20
      go_wp2
      go_ret
      exact ⟨rfl, Mod.refl _ _⟩
  · have ht : textOf n = Lib.itoa n := by unfold textOf Lib.itoa; rw [if_neg h, if_neg (by omega)]
    rw [ht]
    have hi := hide (itoaw_any n h0 h1 w hL)
    have h2 : ¬ n < 0 := by omega
    have h3 : ¬ 1000000000 < n := by omega
    clear h ht
    go_enter Tryd.func20, Tryd.ntmps20
    go_wp2_with fail
    refine hi.out.mono ?_
    rintro e w1 ⟨rfl, hm⟩
    replace hm := hide hm
    go_wp2
    go_ret
    exact ⟨rfl, hm.out⟩

theorem run_convB (x : Int) (w : World) :
    (convert 47 9 (.slice (some ⟨w.heap.size, 0, none⟩) 1 1)).run Tryd.prog (w.alloc (.cells #[.int .u8 x] 5)) = .ok (.string ⟨#[UInt8.ofNat x.toNat]⟩) (w.alloc (.cells #[.int .u8 x] 5)) := by
  have h := run_convert_bytes_arg (P := Tryd.prog) (w.alloc (.cells #[.int .u8 x] 5)) 47 5 Tryd.underlying47 Tryd.underlying5 w.heap.size 0 1 1 [x] rfl
    (fun i hi => by
      obtain rfl : i = 0 := by omega
      exact cell_of_block (heap_alloc_new w _) 0 rfl) 9 Tryd.underlying9
  exact h
def lenOfV : Value → Nat | .string t => t.size | _ => 0
theorem decDigits_len (u : Nat) : (Lib.decDigits u).length ≤ u + 1 := by
  induction u using Nat.strongRecOn with
  | _ u ih =>
    rw [Lib.decDigits]
    split
    · simp
    · have := ih (u / 10) (by omega)
      simp
      omega
theorem bs_app (a b : List UInt8) : bs a ++ bs b = bs (a ++ b) := by
  apply ByteArray.ext
  simp

set_option maxRecDepth 100000 in
set_option maxHeartbeats 4000000 in
theorem rtext_any (n : Int) (h0 : -9223372036854775808 ≤ n) (h1 : n ≤ 9223372036854775807) (w : World) :
    Calls Tryd.prog 21 #[.int .i64 n] w fun e w' => e = .returned (.string (bs (textOf n))) ∧ Mod NoB w w' := by
  by_cases h : n < 0 ∨ 1000000000 < n
  · have ht : textOf n = [] := by simp [textOf, h]
    rw [ht]
    rcases h with h | h
    · go_enter Tryd.func21, Tryd.ntmps21
      go_wp2
      go_ret
      exact ⟨rfl, Mod.refl _ _⟩
    · have h' : ¬ n < 0 := by omega
      go_enter Tryd.func21, Tryd.ntmps21
      go_wp2
      go_ret
      exact ⟨rfl, Mod.refl _ _⟩
  · have ht : textOf n = Lib.decDigits n.toNat := by unfold textOf; rw [if_neg h]
    rw [ht]
    obtain ⟨m, rfl⟩ := Int.eq_ofNat_of_zero_le (show 0 ≤ n by omega)
    have hm9 : m ≤ 1000000000 := by omega
    rw [Int.toNat_natCast]
    have h2 : ¬ (m : Int) < 0 := by omega
    have h3 : ¬ (1000000000 : Int) < (m : Int) := by omega
    have hcv := run_convB
    clear h ht h0 h1
    go_enter Tryd.func21, Tryd.ntmps21
    go_wp2_with fail
    go_loopw [0, 3] (fun v s wr => ∃ (k : Nat) (l : List UInt8), k ≤ m ∧ v = .int .i64 k ∧ s = .string (bs l) ∧ ((l = [] ∧ k = m) ∨ (l ≠ [] ∧ (if k = 0 then [] else Lib.decDigits k) ++ l = Lib.decDigits m)) ∧ Mod NoB w wr)
      (fun v s _ => (intOf v).toNat + (1 - lenOfV s))
    case atStart => exact ⟨m, [], Nat.le_refl _, rfl, rfl, Or.inl ⟨rfl, rfl⟩, Mod.refl _ _⟩
    case round =>
      obtain ⟨k, l, hk, rfl, rfl, hr, hm⟩ := hrel
      replace hm := hide hm
      by_cases hk0 : k = 0
      · subst hk0
        rcases hr with ⟨rfl, hn0⟩ | ⟨hl, hd⟩
        · replace hn0 := hide hn0
          go_wp2
          go_roundw
          case rel =>
            refine ⟨0, [48], by omega, by go_num, rfl, Or.inr ⟨by simp, ?_⟩, hm.out.alloc _⟩
            rw [← hn0.out, Lib.decDigits]; rfl
          case measure => simp [intOf, lenOfV, ByteArray.size]
        · have he : l.isEmpty = false := by simpa using hl
          replace hl := hide hl
          replace hd := hide hd
          go_wp2
          go_ret
          have this := hd.out
          simp only [if_true, List.nil_append] at this
          rw [this]
          exact ⟨rfl, hm.out⟩
      · have hr2 : Lib.decDigits k ++ l = Lib.decDigits m := by
          rcases hr with ⟨rfl, rfl⟩ | ⟨_, hd⟩
          · simp
          · rwa [if_neg hk0] at hd
        clear hr
        have hll : l.length ≤ m + 1 := by
          have h1 := decDigits_len m
          rw [← hr2] at h1
          simp at h1
          omega
        replace hr2 := hide hr2
        go_wp2
        go_roundw
        case rel =>
          refine ⟨k / 10, UInt8.ofNat (48 + k % 10) :: l, by omega, by go_num, ?_, Or.inr ⟨by simp, ?_⟩, hm.out.alloc _⟩
          · refine congrArg Value.string ((bs_app [_] l).trans ?_)
            rw [UInt8.ofNat_add]
            rfl
          · rw [← hr2.out]
            by_cases h10 : k < 10
            · rw [if_pos (by omega), Lib.decDigits, dif_pos h10, Nat.mod_eq_of_lt h10]; rfl
            · rw [if_neg (by omega), Lib.decDigits.eq_def k, dif_neg h10]; simp
        case measure => simp [intOf, lenOfV, ByteArray.size]; omega
end Go.Proofs.YthbaoocnnfnhnaaDoor
