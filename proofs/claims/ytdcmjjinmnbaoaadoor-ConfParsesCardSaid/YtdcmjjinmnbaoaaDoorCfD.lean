/- A list of ints in memory; slices.Index, Contains, Equal at []int. -/
import Derived.Test.YtdcmjjinmnbaoaaDoorKitQ
import Derived.Test.YtdcmjjinmnbaoaaDoorKitSl
namespace Go.Proofs.YtdcmjjinmnbaoaaDoor
open Go.RowKit

/-- The ints xs lie at p. -/
def IntsL (w : World) (p : Option Addr) (xs : List Int) : Prop :=
  ∀ j, j < xs.length → ∃ b off, p = some ⟨b, off, none⟩ ∧ b < w.heap.size ∧ w.cell? ⟨b, off + j, none⟩ = some (.int .i64 (xs.getD j 0))
theorem IntsL.mod {S : Nat → Prop} {w w' : World} {p : Option Addr} {xs : List Int} (h : IntsL w p xs) (hm : Mod S w w') (hS : ∀ b off, p = some ⟨b, off, none⟩ → ¬ S b) : IntsL w' p xs := fun j hj => by
  obtain ⟨b, off, h1, h2, h3⟩ := h j hj
  exact ⟨b, off, h1, Nat.lt_of_lt_of_le h2 hm.size, hm.cellAt (hS _ _ h1) h3⟩
theorem IntsL.mod0 {w w' : World} {p : Option Addr} {xs : List Int} (h : IntsL w p xs) (hm : Mod NoB w w') : IntsL w' p xs := h.mod hm (fun _ _ _ => id)
theorem IntsL.take {w : World} {p : Option Addr} {xs : List Int} (h : IntsL w p xs) (n : Nat) : IntsL w p (xs.take n) := fun j hj => by
  have h1 : j < xs.length := by simp at hj; omega
  have h2 : j < n := by simp at hj; omega
  obtain ⟨b, off, a1, a2, a3⟩ := h j h1
  refine ⟨b, off, a1, a2, ?_⟩
  rw [a3]
  simp [List.getD, List.getElem?_take_of_lt h2]

/-- Where v stands first. -/
def indexI : List Int → Int → Nat → Int
  | [], _, _ => -1
  | x :: r, v, i => if v = x then i else indexI r v (i + 1)
def inI (xs : List Int) (v : Int) : Bool := xs.contains v
theorem index_skip (xs : List Int) (v : Int) : ∀ (k i : Nat), v ∉ xs.take k → indexI xs v i = indexI (xs.drop k) v (i + min k xs.length) := by
  induction xs with
  | nil => intro k i _; simp
  | cons x xs ih =>
    intro k i hk
    cases k with
    | zero => simp
    | succ k =>
      simp only [List.take_succ_cons, List.mem_cons, not_or] at hk
      rw [indexI, if_neg hk.1, ih k (i + 1) hk.2, List.drop_succ_cons]
      congr 1
      simp only [List.length_cons]
      omega
theorem index_at {xs : List Int} {v : Int} {k : Nat} (hk : k < xs.length) (hno : v ∉ xs.take k) (hv : xs.getD k 0 = v) : indexI xs v 0 = k := by
  rw [index_skip xs v k 0 hno]
  have : xs.drop k = v :: xs.drop (k + 1) := by
    rw [← List.getElem_cons_drop hk]
    congr 1
    rw [← hv]
    simp [List.getD, hk]
  rw [this, indexI, if_pos rfl]
  congr 1
  omega
theorem indexI_none {xs : List Int} {v : Int} (h : v ∉ xs) : indexI xs v 0 = -1 := by
  rw [index_skip xs v xs.length 0 (by rw [List.take_length]; exact h), List.drop_length]
  rfl
theorem take_mem {xs : List Int} {v : Int} {k : Nat} (hk : k < xs.length) (h : v ∉ xs.take k) (hv : ¬ v = xs.getD k 0) : v ∉ xs.take (k + 1) := by
  rw [List.take_add_one]
  have : xs[k]? = some (xs.getD k 0) := by simp [List.getD, hk]
  rw [this]
  simp only [Option.toList_some, List.mem_append, List.mem_singleton, not_or]
  exact ⟨h, hv⟩
theorem index_ge (xs : List Int) (v : Int) : decide (0 ≤ indexI xs v 0) = inI xs v := by
  have key : ∀ (xs : List Int) (i : Nat), decide (0 ≤ indexI xs v i) = xs.contains v := by
    intro xs
    induction xs with
    | nil => intro i; rfl
    | cons x xs ih =>
      intro i
      rw [indexI, List.contains_cons]
      by_cases h : v = x
      · rw [if_pos h]; simp [h]
      · rw [if_neg h, ih]; simp [h]
  exact key xs 0

set_option maxHeartbeats 2000000 in
theorem sindex_any (p : Option Addr) (xs : List Int) (c : Nat) (v : Int) (w : World) (h : IntsL w p xs) (hl : xs.length ≤ 1000000) :
    Calls Tryd.prog 50 #[.slice p xs.length c, .int .i64 v] w fun e w' => e = .returned (.int .i64 (indexI xs v 0)) ∧ Mod NoB w w' := by
  go_enter Tryd.func50, Tryd.ntmps50
  go_wp2_with fail
  go_loop [8] (fun vi => ∃ i : Nat, i ≤ xs.length ∧ vi = .int .i64 i ∧ v ∉ xs.take i) (fun vi => xs.length - (intOf vi).toNat)
  case atStart => exact ⟨0, by omega, rfl, by simp⟩
  case round =>
    obtain ⟨i, hi, rfl, hno⟩ := hrel
    by_cases hlt : i < xs.length
    · obtain ⟨b, off, rfl, hb, hc⟩ := h i hlt
      have hat := hide (fun hv => index_at (v := v) hlt hno hv)
      have htk := hide (fun hv => take_mem (v := v) hlt hno hv)
      replace hno := hide hno
      replace h := hide h
      generalize xs.getD i 0 = x at hc hat htk
      by_cases hv : v = x
      · subst hv
        have hvv : (v == v) = true := by simp
        go_wp2
        go_ret
        exact ⟨int_ret (hat.out (by first | rfl | trivial)).symm, Mod.refl _ _⟩
      · have hvv : (v == x) = false := by simpa using hv
        go_wp2
        go_round
        case rel => exact ⟨i + 1, by omega, by go_num, htk.out hv⟩
        case measure => simp [intOf]; omega
    · obtain rfl : i = xs.length := by omega
      rw [List.take_length] at hno
      have hn := hide (indexI_none hno)
      clear hno h
      go_wp2
      go_ret
      exact ⟨int_ret hn.out.symm, Mod.refl _ _⟩

theorem contains_any (p : Option Addr) (xs : List Int) (c : Nat) (v : Int) (w : World) (h : IntsL w p xs) (hl : xs.length ≤ 1000000) :
    Calls Tryd.prog 31 #[.slice p xs.length c, .int .i64 v] w fun e w' => e = .returned (.bool (inI xs v)) ∧ Mod NoB w w' := by
  have hi := hide (sindex_any p xs c v w h hl)
  have hg := hide (index_ge xs v)
  clear h
  go_enter Tryd.func31, Tryd.ntmps31
  go_wp2_with fail
  refine hi.out.mono ?_
  rintro e w1 ⟨rfl, hm⟩
  replace hm := hide hm
  generalize indexI xs v 0 = r at hg
  go_wp2
  go_ret
  exact ⟨bool_ret hg.out, hm.out⟩

def eqI (xs ys : List Int) : Bool := xs == ys
theorem eqI_len {xs ys : List Int} (h : xs.length ≠ ys.length) : eqI xs ys = false := by
  unfold eqI
  rw [beq_eq_false_iff_ne]
  intro e
  exact h (by rw [e])
theorem eqI_at {xs ys : List Int} {k : Nat} (h : xs.getD k 0 ≠ ys.getD k 0) : eqI xs ys = false := by
  unfold eqI
  rw [beq_eq_false_iff_ne]
  intro e
  exact h (by rw [e])
theorem eqI_all {xs ys : List Int} (hl : xs.length = ys.length) (h : ∀ k, k < xs.length → xs.getD k 0 = ys.getD k 0) : eqI xs ys = true := by
  unfold eqI
  rw [beq_iff_eq]
  refine List.ext_getElem hl fun k h1 h2 => ?_
  have := h k h1
  simpa [List.getD, h1, h2] using this

set_option maxHeartbeats 4000000 in
theorem sequal_any (p q : Option Addr) (xs ys : List Int) (c d : Nat) (w : World) (hx : IntsL w p xs) (hy : IntsL w q ys) (hl : xs.length ≤ 1000000) :
    Calls Tryd.prog 32 #[.slice p xs.length c, .slice q ys.length d] w fun e w' => e = .returned (.bool (eqI xs ys)) ∧ Mod NoB w w' := by
  by_cases hlen : xs.length = ys.length
  · have hlb : ((xs.length : Int) != (xs.length : Int)) = false := by simp
    obtain ⟨r, hr⟩ : ∃ r, eqI xs ys = r := ⟨_, rfl⟩
    rw [hr]
    have hfa := hide (fun k (h : xs.getD k 0 ≠ ys.getD k 0) => hr.symm.trans (eqI_at h))
    have htr := hide (fun (h : ∀ k, k < xs.length → xs.getD k 0 = ys.getD k 0) => hr.symm.trans (eqI_all hlen h))
    rw [← hlen]
    replace hlen := hide hlen
    replace hr := hide hr
    go_enter Tryd.func32, Tryd.ntmps32
    go_wp2_with fail
    go_loopw [13] (fun vi wr => ∃ i : Nat, i ≤ xs.length ∧ vi = .int .i64 i ∧ (∀ k, k < i → xs.getD k 0 = ys.getD k 0) ∧ Mod NoB w wr) (fun vi _ => xs.length - (intOf vi).toNat)
    case atStart => exact ⟨0, by omega, rfl, by omega, Mod.refl _ _⟩
    case round =>
      obtain ⟨i, hi, rfl, hall, hm⟩ := hrel
      by_cases hlt : i < xs.length
      · obtain ⟨b1, o1, rfl, _, hc1⟩ := hx i hlt
        obtain ⟨b2, o2, rfl, _, hc2⟩ := hy i (by rw [← hlen.out]; exact hlt)
        replace hc1 := hm.cellAt id hc1
        replace hc2 := hm.cellAt id hc2
        have hne := hide (hfa.out i)
        have hal : Hid (xs.getD i 0 = ys.getD i 0 → ∀ k, k < i + 1 → xs.getD k 0 = ys.getD k 0) := hide (fun h k hk => by
          rcases Nat.lt_or_ge k i with h1 | h1
          · exact hall k h1
          · obtain rfl : k = i := by omega
            exact h)
        replace hall := hide hall
        replace hm := hide hm
        replace hx := hide hx
        replace hy := hide hy
        generalize xs.getD i 0 = x at hc1 hne hal
        generalize ys.getD i 0 = y at hc2 hne hal
        have hi0 : (0 : Int) ≤ (i : Int) := by omega
        have hi1 : (i : Int) < (xs.length : Int) := by omega
        by_cases hxy : x = y
        · subst hxy
          have hb : (x != x) = false := by simp
          go_wp2_with fail
          go_quiet (fail)
          go_wp2_with fail
          go_roundw
          case rel => exact ⟨i + 1, by omega, by go_num, hal.out (by first | rfl | trivial), hm.out.drewN _⟩
          case measure => simp [intOf]; omega
        · have hb : (x != y) = true := by simpa using hxy
          go_wp2_with fail
          go_quiet (fail)
          go_wp2
          go_ret
          exact ⟨bool_ret (hne.out hxy).symm, hm.out.drewN _⟩
      · obtain rfl : i = xs.length := by omega
        have ht := hide (htr.out hall)
        clear hall
        replace hm := hide hm
        go_wp2
        go_ret
        exact ⟨bool_ret ht.out.symm, hm.out⟩
  · have hb : ((xs.length : Int) != (ys.length : Int)) = true := by simp; omega
    have hlen2 : ¬ (xs.length : Int) = (ys.length : Int) := by omega
    have hf := hide (eqI_len hlen)
    clear hlen hx hy
    go_enter Tryd.func32, Tryd.ntmps32
    go_wp2
    go_ret
    exact ⟨bool_ret hf.out.symm, Mod.refl _ _⟩

/-- Is a number between two? -/
def inB3 (n lo hi : Int) : Bool := decide (lo ≤ n) && decide (n ≤ hi)
theorem within_any (n lo hi : Int) (w : World) : Calls Tryd.prog 30 #[.int .i64 n, .int .i64 lo, .int .i64 hi] w fun e w' => e = .returned (.bool (inB3 n lo hi)) ∧ w' = w := by
  by_cases h1 : lo ≤ n
  · by_cases h2 : n ≤ hi
    · have hr : inB3 n lo hi = true := by simp [inB3, h1, h2]
      rw [hr]
      clear hr
      go_enter Tryd.func30, Tryd.ntmps30
      go_wp2
      go_ret
      exact ⟨bool_ret (by simp), rfl⟩
    · have hr : inB3 n lo hi = false := by simp [inB3, h2]
      rw [hr]
      clear hr
      go_enter Tryd.func30, Tryd.ntmps30
      go_wp2
      go_ret
      exact ⟨bool_ret (by simp), rfl⟩
  · have hr : inB3 n lo hi = false := by simp [inB3, h1]
    rw [hr]
    clear hr
    go_enter Tryd.func30, Tryd.ntmps30
    go_wp2
    go_ret
    exact ⟨bool_ret (by simp), rfl⟩
end Go.Proofs.YtdcmjjinmnbaoaaDoor
