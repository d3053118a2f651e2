/- Decimals: chronobateref16.Decimal; strconv.Itoa with the frame of this seat. -/
import Derived.Test.YtffcklhoeejlfaaDoorCoB
import Derived.Test.YtffcklhoeejlfaaDoorKitLaid
import Derived.Test.YtffcklhoeejlfaaDoorShelf
import Derived.Laws.BytesArg
namespace Go.Proofs.YtffcklhoeejlfaaDoor
open Go.RowKit

/-- string([]byte{x}), the one-byte slice just made. -/
theorem run_conv1 (x : Int) (w : World) :
    (convert 41 9 (.slice (some ⟨w.heap.size, 0, none⟩) 1 1)).run Tryd.prog (w.alloc (.cells #[.int .u8 x] 5)) = .ok (.string ⟨#[UInt8.ofNat x.toNat]⟩) (w.alloc (.cells #[.int .u8 x] 5)) := by
  have h := run_convert_bytes_arg (P := Tryd.prog) (w.alloc (.cells #[.int .u8 x] 5)) 41 5 Tryd.underlying41 Tryd.underlying5 w.heap.size 0 1 1 [x] rfl
    (fun i hi => by
      obtain rfl : i = 0 := by omega
      exact cell_of_block (heap_alloc_new w _) 0 rfl) 9 Tryd.underlying9
  exact h

theorem str_ret {a b : List UInt8} (h : a = b) : Ending.returned (.string ⟨a.toArray⟩) = .returned (.string ⟨b.toArray⟩) := by rw [h]

/-- A text's length, for a measure. -/
def lenOf : Value → Nat | .string t => t.size | _ => 0

theorem decDigits_len (u : Nat) : (Lib.decDigits u).length ≤ u + 1 := by
  induction u using Nat.strongRecOn with
  | _ u ih =>
    rw [Lib.decDigits]
    split
    · simp
    · have := ih (u / 10) (by omega)
      simp
      omega

theorem bytes_append (a b : List UInt8) : (⟨a.toArray⟩ : ByteArray) ++ ⟨b.toArray⟩ = ⟨(a ++ b).toArray⟩ := by
  apply ByteArray.ext
  simp

theorem dec_any (n : Nat) (hn : (n : Int) ≤ 9007199254740992) (w : World) :
    Calls Tryd.prog 15 #[.int .i64 n] w fun e w' => e = .returned (.string ⟨(Lib.decDigits n).toArray⟩) ∧ Mod NoB w w' := by
  have hcv := run_conv1
  go_enter Tryd.func15, Tryd.ntmps15
  go_wp2_with fail
  go_loopw [0, 3] (fun m s wr => ∃ (k : Nat) (l : List UInt8), k ≤ n ∧ m = .int .i64 k ∧ s = .string ⟨l.toArray⟩ ∧ ((l = [] ∧ k = n) ∨ (l ≠ [] ∧ (if k = 0 then [] else Lib.decDigits k) ++ l = Lib.decDigits n)) ∧ Mod NoB w wr)
     (fun m s _ => (intOf m).toNat + (1 - lenOf s))
  case atStart => exact ⟨n, [], Nat.le_refl _, rfl, rfl, Or.inl ⟨rfl, rfl⟩, Mod.refl _ _⟩
  case round =>
    obtain ⟨k, l, hk, rfl, rfl, hr, hm⟩ := hrel
    replace hm := hide hm
    by_cases hk0 : k = 0
    · subst hk0
      rcases hr with ⟨rfl, hn0⟩ | ⟨hl, hd⟩
      · replace hn0 := hide hn0
        go_wp2
        go_roundw
        case rel =>
          refine ⟨0, [48], by omega, by go_num, rfl, Or.inr ⟨by simp, ?_⟩, hm.out.alloc _⟩
          rw [← hn0.out, Lib.decDigits]; rfl
        case measure => simp [intOf, lenOf, ByteArray.size]
      · have he : l.isEmpty = false := by simpa using hl
        replace hl := hide hl
        replace hd := hide hd
        go_wp2
        go_ret
        have this := hd.out
        simp only [if_true, List.nil_append] at this
        exact ⟨str_ret this, hm.out⟩
    · have hr2 : Lib.decDigits k ++ l = Lib.decDigits n := by
        rcases hr with ⟨rfl, rfl⟩ | ⟨_, hd⟩
        · simp
        · rwa [if_neg hk0] at hd
      clear hr
      have hll : l.length ≤ n + 1 := by
        have h1 := decDigits_len n
        rw [← hr2] at h1
        simp at h1
        omega
      replace hr2 := hide hr2
      go_wp2
      go_roundw
      case rel =>
        refine ⟨k / 10, UInt8.ofNat (48 + k % 10) :: l, by omega, by go_num, ?_, Or.inr ⟨by simp, ?_⟩, hm.out.alloc _⟩
        · refine congrArg Value.string ((bytes_append [_] l).trans ?_)
          rw [UInt8.ofNat_add]
          rfl
        · rw [← hr2.out]
          by_cases h10 : k < 10
          · rw [if_pos (by omega), Lib.decDigits, dif_pos h10, Nat.mod_eq_of_lt h10]; rfl
          · rw [if_neg (by omega), Lib.decDigits.eq_def k, dif_neg h10]; simp
      case measure => simp [intOf, lenOf, ByteArray.size]; omega

/-! ### What the rows list -/
def nameL : List (List UInt8) := [[116, 97, 107, 101, 110], [115, 104, 111, 114, 116], [117, 110, 107, 110, 111, 119, 110], [114, 101, 116, 105, 114, 101, 100], [105, 100, 108, 101], [118, 101, 114, 115, 105, 111, 110], [109, 111, 100, 101], [111, 114, 105, 103, 105, 110], [107, 105, 115, 115], [108, 101, 97, 112], [115, 116, 114, 97, 116, 117, 109], [122, 101, 114, 111], [115, 108, 111, 119]]
abbrev bs (l : List UInt8) : ByteArray := ⟨l.toArray⟩

structure Laid (W : World) : Prop where
  pow : Lib.TabIs Tryd.prog W "internal/strconv.uint64pow10" .u64 Lib.pow10Tab
  names : W.var? Tryd.prog "chronobate/sane.names" = some (nameL.map fun s => Value.string ⟨s.toArray⟩).toArray

theorem gPow : Tryd.prog.globalNamed "internal/strconv.uint64pow10" = some 1 := by kernel_rfl
theorem gNames : Tryd.prog.globalNamed "chronobate/sane.names" = some 0 := by kernel_rfl

theorem Laid.mod {w w' : World} (h : Laid w) (hm : Mod NoB w w') : Laid w' := ⟨hm.var gPow id h.pow, hm.var gNames id h.names⟩

theorem Laid.name {w : World} (h : Laid w) (i : Nat) (hi : i < 13) : w.cell? ⟨0, i, none⟩ = some (.string (bs (nameL.getD i []))) := by
  rw [var_cell gNames h.names]
  have : nameL.length = 13 := rfl
  simp [List.getD, this, hi]

theorem itoa_any (n : Int) (hn : I64 n) (w : World) (h : Laid w) :
    Calls Tryd.prog 20 #[.int .i64 n] w fun e w' => e = .returned (.string (bs (Lib.itoa n))) ∧ Mod NoB w w' :=
  (Tryd.strconv_Itoa n hn.1 hn.2 w h.pow).mono fun e w' ⟨he, k, os, hw⟩ => ⟨he, by rw [hw]; exact ((Mod.refl _ _).drewN k).grow os⟩

/-- A list of the names, just made. -/
def NamesPost (w : World) (e : Ending) (w' : World) : Prop :=
  ∃ r cap, e = .returned (.slice (some ⟨r, 0, none⟩) 13 cap) ∧ (∀ i, i < 13 → w'.cell? ⟨r, i, none⟩ = some (.string (bs (nameL.getD i [])))) ∧ w.heap.size ≤ r ∧ r < w'.heap.size ∧ Mod NoB w w'

theorem names_any (w : World) (h : Laid w) : Calls Tryd.prog 19 #[] w (NamesPost w) := by
  have hc : ∀ j, j < (nameL.map bs).length → w.cell? ⟨0, 0 + j, none⟩ = some (.string ((nameL.map bs).getD j ByteArray.empty)) := by
    intro j hj
    have hj' : j < nameL.length := by simpa using hj
    rw [Nat.zero_add, h.name j hj']
    simp [List.getD, hj']
  replace h := hide h
  replace hc := hide hc
  go_enter Tryd.func19, Tryd.ntmps19
  go_wp2_with fail
  refine (Tryd.slices_Clone_string 0 0 13 13 (nameL.map bs) _ (by decide) (by decide) hc.out).mono ?_
  rintro e w1 ⟨v, rfl, hown, hne, hb⟩
  obtain ⟨r, cap, rfl⟩ : ∃ g cap, v = .slice (some ⟨g, 0, none⟩) 13 cap := by
    rcases hown.2 with ⟨_, h0⟩ | ⟨g, cap, _, hv, _⟩
    · omega
    · exact ⟨g, cap, hv⟩
  have hcell : ∀ i, i < 13 → w1.cell? ⟨r, i, none⟩ = some (.string (bs (nameL.getD i []))) := by
    intro i hi
    rw [hown.cellAt i (by omega)]
    have : nameL.length = 13 := rfl
    simp [List.getD, this, hi]
  have hr := hown.lt r rfl
  have hm := Below.mod hb
  replace hown := hide hown
  replace hcell := hide hcell
  replace hm := hide hm
  replace hb := hide hb
  clear hne
  go_wp2
  go_ret
  exact ⟨r, cap, rfl, hcell.out, hr.1, hr.2, hm.out⟩

theorem rnames_any (w : World) : Calls Tryd.prog 14 #[] w (NamesPost w) := by
  go_enter Tryd.func14, Tryd.ntmps14
  go_wp2
  go_ret
  refine ⟨w.heap.size, 13, rfl, ?_, Nat.le_refl _, by simp, (Mod.refl _ _).alloc _⟩
  intro i hi
  refine cell_of_block (heap_alloc_new w _) i ?_
  match i, hi with
  | 0, _ | 1, _ | 2, _ | 3, _ | 4, _ | 5, _ | 6, _ | 7, _ | 8, _ | 9, _ | 10, _ | 11, _ | 12, _ => rfl

end Go.Proofs.YtffcklhoeejlfaaDoor
