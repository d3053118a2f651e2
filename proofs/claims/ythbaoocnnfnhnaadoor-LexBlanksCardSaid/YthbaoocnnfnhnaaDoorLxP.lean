/- Decimal words: plain Lean. -/
import Derived.Test.YthbaoocnnfnhnaaDoorLxM
import Derived.Shelf.Strings.SlTrimAscii
import Derived.Lib.AtoiAllCases
namespace Go.Proofs.YthbaoocnnfnhnaaDoor
open Go.RowKit

def isDig (b : UInt8) : Bool := decide (48 ≤ b.toNat) && decide (b.toNat ≤ 57)
def decFromV (n : Nat) (l : List UInt8) : Nat := l.foldl (fun n b => 10 * n + (b.toNat - 48)) n
/-- What digits spell. -/
def decV (l : List UInt8) : Nat := decFromV 0 l
/-- Is it a number's text? -/
def numB (l : List UInt8) : Bool := !l.isEmpty && l.all isDig && !(decide (1 < l.length) && decide (l.head? = some 48))
/-- What is told of a word: the number, the error. -/
def numR (l : List UInt8) : Int × Int := if numB l = true then (if 1000000000 < decV l then (0, 3) else ((decV l : Nat), 0)) else (0, 6)

theorem decFromV_cons (n : Nat) (b : UInt8) (l : List UInt8) : decFromV n (b :: l) = decFromV (10 * n + (b.toNat - 48)) l := by simp only [decFromV, List.foldl_cons]
theorem decFromV_le (l : List UInt8) : ∀ n, n ≤ decFromV n l := by
  induction l with
  | nil => intro n; exact Nat.le_refl _
  | cons b l ih => intro n; rw [decFromV_cons]; have := ih (10 * n + (b.toNat - 48)); omega
theorem decFromV_app (l : List UInt8) : ∀ n b, decFromV n (l ++ [b]) = 10 * decFromV n l + (b.toNat - 48) := by
  induction l with
  | nil => intro n b; rfl
  | cons c l ih => intro n b; rw [List.cons_append, decFromV_cons, ih, decFromV_cons]
theorem decFromV_apps (l m : List UInt8) (n : Nat) : decFromV n (l ++ m) = decFromV (decFromV n l) m := by simp [decFromV]

theorem parse_dig (l : List UInt8) (h : l.all isDig = true) : ∀ acc, acc < 18446744073709551616 → Lib.parseUint10 acc l = if decFromV acc l < 18446744073709551616 then .ok (decFromV acc l) else .range := by
  induction l with
  | nil => intro acc ha; simp [Lib.parseUint10, decFromV, ha]
  | cons b l ih =>
    intro acc ha
    simp only [List.all_cons, Bool.and_eq_true] at h
    have hb : 48 ≤ b.toNat ∧ b.toNat ≤ 57 := by have := h.1; simp [isDig] at this; exact this
    rw [Lib.parseUint10, if_pos hb, decFromV_cons]
    have hle := decFromV_le l (10 * acc + (b.toNat - 48))
    by_cases h1 : 1844674407370955162 ≤ acc
    · rw [if_pos h1, if_neg (by omega)]
    · rw [if_neg h1]
      by_cases h2 : 18446744073709551616 ≤ acc * 10 + (b.toNat - 48)
      · rw [if_pos h2, if_neg (by omega)]
      · rw [if_neg h2, ih h.2 _ (by omega), Nat.mul_comm acc 10]

theorem atoi_dig (l : List UInt8) (h0 : l ≠ []) (h : l.all isDig = true) : Lib.atoiAll l = if decV l < 9223372036854775808 then .ok (decV l : Int) else .range := by
  cases l with
  | nil => exact absurd rfl h0
  | cons c r =>
    have hc : 48 ≤ c.toNat ∧ c.toNat ≤ 57 := by have := h; simp [isDig] at this; exact this.1
    rw [Lib.atoiAll_plain c r (by omega) (by omega), Lib.parseMag, if_neg (by simp), parse_dig (c :: r) h 0 (by omega)]
    show Lib.signless (if decV (c :: r) < _ then .ok (decV (c :: r)) else .range) = _
    by_cases h1 : decV (c :: r) < 9223372036854775808
    · rw [if_pos (by omega), if_pos h1, Lib.signless, if_neg (by omega)]
    · rw [if_neg h1]
      by_cases h2 : decV (c :: r) < 18446744073709551616
      · rw [if_pos h2, Lib.signless, if_pos (by omega)]
      · rw [if_neg h2]; rfl

def digits10 : List UInt8 := [48, 49, 50, 51, 52, 53, 54, 55, 56, 57]
theorem digits_mem (b : UInt8) : digits10.contains b = isDig b := by
  have h : ∀ n, n < 256 → digits10.contains (UInt8.ofNat n) = isDig (UInt8.ofNat n) := by decide +kernel
  have := h b.toNat b.toNat_lt
  rwa [UInt8.ofNat_toNat] at this
theorem dropAll {p : UInt8 → Bool} (l : List UInt8) : List.dropWhile p l = [] ↔ ∀ b ∈ l, p b = true := by
  induction l with
  | nil => simp
  | cons b l ih =>
    rw [List.dropWhile_cons]
    cases hb : p b <;> simp [hb, ih]
theorem trim_dig (l : List UInt8) : Lib.trimS l digits10 = [] ↔ l.all isDig = true := by
  unfold Lib.trimS Lib.trimLeftS Lib.trimRightS
  have hf : (fun b => digits10.contains b) = isDig := funext digits_mem
  rw [hf]
  constructor
  · intro h
    have h1 : ∀ b ∈ (List.dropWhile isDig l.reverse).reverse, isDig b = true := by
      rw [dropAll] at h
      exact h
    have h2 : List.dropWhile isDig l.reverse = [] := by
      cases hd : List.dropWhile isDig l.reverse with
      | nil => rfl
      | cons b r =>
        have h3 := List.head_dropWhile_not isDig (l := l.reverse) (by rw [hd]; simp)
        simp only [hd, List.head_cons] at h3
        have := h1 b (by rw [hd]; simp)
        rw [h3] at this
        cases this
    rw [dropAll] at h2
    rw [List.all_eq_true]
    intro b hb
    exact h2 b (by simpa using hb)
  · intro h
    rw [List.all_eq_true] at h
    have h2 : List.dropWhile isDig l.reverse = [] := by
      rw [dropAll]
      intro b hb
      exact h b (by simpa using hb)
    rw [h2]
    rfl
end Go.Proofs.YthbaoocnnfnhnaaDoor
