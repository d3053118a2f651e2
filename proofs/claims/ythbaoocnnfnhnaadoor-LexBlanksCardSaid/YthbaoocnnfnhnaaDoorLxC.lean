/- strings.Cut at a separator of one byte. -/
import Derived.Test.YthbaoocnnfnhnaaDoorLxB
namespace Go.Proofs.YthbaoocnnfnhnaaDoor
open Go.RowKit

/-- What stands ahead of the first c. -/
def upTo (l : List UInt8) (c : UInt8) : List UInt8 := l.takeWhile (· != c)

/-- Where the first c stands. -/
theorem index_upTo (l : List UInt8) (c : UInt8) : Lib.indexByte l c = if c ∈ l then ((upTo l c).length : Int) else -1 := by
  induction l with
  | nil => simp [Lib.indexByte]
  | cons b l ih =>
    unfold Lib.indexByte
    by_cases hb : b = c
    · subst hb; simp [upTo]
    · have h1 : (b == c) = false := by simpa using hb
      have h2 : (b != c) = true := by simpa using hb
      rw [h1, ih]
      by_cases hm : c ∈ l
      · have : ¬ ((upTo l c).length : Int) = -1 := by omega
        simp [hm, upTo, h2]
      · have h3 : ¬ c = b := fun e => hb e.symm
        simp [hm, h3]
theorem upTo_all {l : List UInt8} {c : UInt8} (h : c ∉ l) : upTo l c = l := by
  induction l with
  | nil => rfl
  | cons b l ih =>
    have h1 : (b != c) = true := by simp; intro e; subst e; exact h (by simp)
    unfold upTo
    rw [List.takeWhile_cons, if_pos h1]
    congr 1
    exact ih (fun hm => h (by simp [hm]))
theorem upTo_not (l : List UInt8) (c : UInt8) : c ∉ upTo l c := by
  induction l with
  | nil => simp [upTo]
  | cons b l ih =>
    unfold upTo
    rw [List.takeWhile_cons]
    split
    · rename_i h1
      intro hm
      rcases List.mem_cons.mp hm with e | e
      · subst e; simp at h1
      · exact ih e
    · simp
theorem upTo_le (l : List UInt8) (c : UInt8) : (upTo l c).length ≤ l.length := (List.takeWhile_sublist _).length_le
theorem upTo_take (l : List UInt8) (c : UInt8) : upTo l c = l.take (upTo l c).length := by
  have := List.takeWhile_prefix (p := (· != c)) (l := l)
  exact List.prefix_iff_eq_take.mp this
theorem upTo_lt {l : List UInt8} {c : UInt8} (h : c ∈ l) : (upTo l c).length < l.length := by
  rcases Nat.lt_or_ge (upTo l c).length l.length with h1 | h1
  · exact h1
  · exfalso
    have h2 := upTo_take l c
    rw [List.take_of_length_le h1] at h2
    rw [← h2] at h
    exact upTo_not l c h

set_option maxHeartbeats 4000000 in
theorem cutIn_any (l : List UInt8) (c : UInt8) (w : World) (hl : l.length ≤ 9223372036854775806) :
    Calls Tryd.prog 42 #[.string (bs l), .string ⟨#[c]⟩] w fun e w' => ∃ u v, e = .returned (.tuple #[.string (bs (upTo l c)), u, v]) ∧ Mod NoB w w' := by
  have hix0 := Tryd.stringslite_Index_one (bs l) c w
  by_cases hc : c ∈ l
  · have hix : Calls Tryd.prog 45 #[.string (bs l), .string ⟨#[c]⟩] w fun e w' => e = .returned (.int .i64 ((upTo l c).length : Nat)) ∧ w' = w := by
      have := index_upTo l c
      rw [if_pos hc] at this
      rw [← this]; exact hix0
    have hlt := upTo_lt hc
    have hex : (bs l).extract 0 (upTo l c).length = bs (upTo l c) := by rw [bs_take, ← upTo_take]
    have hex2 : (bs l).extract ((upTo l c).length + 1) l.length = bs (l.drop ((upTo l c).length + 1)) := bs_drop _ _
    clear hix0
    replace hix := hide hix
    generalize upTo l c = p at hix hlt hex hex2 ⊢
    clear hc
    go_enter Tryd.func42, Tryd.ntmps42
    go_wp2_with fail
    refine hix.out.mono ?_
    rintro e w' ⟨rfl, rfl⟩
    have hw1 : IntKind.i64.wrap ((p.length : Int) + 1) = (p.length : Int) + 1 := IntWalk.i64_in _ (by omega)
    go_wp2_with fail
    go_region_with ((fail))
    all_goals
      go_wp2
      go_ret3
      exact ⟨_, _, rfl, (Mod.refl _ _).drew⟩
  · have hix : Calls Tryd.prog 45 #[.string (bs l), .string ⟨#[c]⟩] w fun e w' => e = .returned (.int .i64 (-1)) ∧ w' = w := by
      have := index_upTo l c
      rw [if_neg hc] at this
      rw [← this]; exact hix0
    rw [upTo_all hc]
    clear hix0 hc
    replace hix := hide hix
    go_enter Tryd.func42, Tryd.ntmps42
    go_wp2_with fail
    refine hix.out.mono ?_
    rintro e w' ⟨rfl, rfl⟩
    go_wp2
    go_ret3
    exact ⟨_, _, rfl, Mod.refl _ _⟩

theorem cut_any (l : List UInt8) (c : UInt8) (w : World) (hl : l.length ≤ 9223372036854775806) :
    Calls Tryd.prog 24 #[.string (bs l), .string ⟨#[c]⟩] w fun e w' => ∃ u v, e = .returned (.tuple #[.string (bs (upTo l c)), u, v]) ∧ Mod NoB w w' := by
  have hin := cutIn_any l c w hl
  replace hin := hide hin
  go_enter Tryd.func24, Tryd.ntmps24
  go_wp2_with fail
  refine hin.out.mono ?_
  rintro e w' ⟨u, v, rfl, hm⟩
  replace hm := hide hm
  go_wp2
  go_ret3
  exact ⟨_, _, rfl, hm.out⟩
end Go.Proofs.YthbaoocnnfnhnaaDoor
