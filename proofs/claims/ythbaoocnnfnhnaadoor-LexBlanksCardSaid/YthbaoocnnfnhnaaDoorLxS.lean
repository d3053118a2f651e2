/- Numbers and their texts; what the rows of numbers list. -/
import Derived.Test.YthbaoocnnfnhnaaDoorLxR
import Derived.Test.YthbaoocnnfnhnaaDoorLxK
namespace Go.Proofs.YthbaoocnnfnhnaaDoor
open Go.RowKit

theorem dig_of {u : Nat} (h : u < 10) : isDig (UInt8.ofNat (48 + u)) = true ∧ (UInt8.ofNat (48 + u)).toNat = 48 + u := by
  have h2 : (UInt8.ofNat (48 + u)).toNat = 48 + u := by simp; omega
  refine ⟨?_, h2⟩
  unfold isDig
  rw [h2]
  simp; omega
/-- What is asked of a number's digits. -/
structure DigOk (u : Nat) (l : List UInt8) : Prop where
  ne : l ≠ []
  all : l.all isDig = true
  val : decV l = u
  head : 1 < l.length → l.head? ≠ some 48
  zero : l.head? = some 48 → u = 0
theorem decDigits_ok (u : Nat) : DigOk u (Lib.decDigits u) := by
  induction u using Nat.strongRecOn with
  | _ u ih =>
    rw [Lib.decDigits]
    split
    · rename_i h
      obtain ⟨d1, d2⟩ := dig_of h
      refine ⟨by simp, by rw [List.all_cons, d1]; rfl, ?_, by simp, ?_⟩
      · show decFromV 0 [_] = u
        rw [decFromV_cons, d2]
        show 10 * 0 + (48 + u - 48) = u
        omega
      · intro e
        simp only [List.head?_cons, Option.some.injEq] at e
        have := congrArg UInt8.toNat e
        rw [d2] at this
        have h48 : (48 : UInt8).toNat = 48 := rfl
        omega
    · rename_i h
      have hi := ih (u / 10) (by omega)
      obtain ⟨d1, d2⟩ := dig_of (u := u % 10) (by omega)
      have hh : (Lib.decDigits (u / 10) ++ [UInt8.ofNat (48 + u % 10)]).head? = (Lib.decDigits (u / 10)).head? := by
        have := hi.ne
        cases hd : Lib.decDigits (u / 10) with
        | nil => exact absurd hd this
        | cons b r => rfl
      have hz : (Lib.decDigits (u / 10)).head? ≠ some 48 := fun e => by have := hi.zero e; omega
      refine ⟨by simp, by rw [List.all_append, hi.all, List.all_cons, d1]; rfl, ?_, fun _ => by rw [hh]; exact hz, fun e => absurd (hh ▸ e) hz⟩
      show decFromV 0 (_ ++ [_]) = u
      rw [decFromV_app, d2]
      have := hi.val
      unfold decV at this
      rw [this]
      omega
theorem numB_dec (u : Nat) : numB (Lib.decDigits u) = true := by
  obtain ⟨h1, h2, h3, h4, h5⟩ := decDigits_ok u
  unfold numB
  rw [h2]
  simp only [Bool.and_true, Bool.and_eq_true, Bool.not_eq_true', List.isEmpty_eq_false_iff]
  refine ⟨h1, ?_⟩
  by_cases h : 1 < (Lib.decDigits u).length
  · simp [h4 h]
  · simp [h]
theorem numR_text {n : Int} (h0 : 0 ≤ n) (h1 : n ≤ 1000000000) : numR (textOf n) = (n, 0) := by
  have ht : textOf n = Lib.decDigits n.toNat := by unfold textOf; rw [if_neg (by omega)]
  rw [ht, numR_ok (numB_dec _) (by rw [(decDigits_ok n.toNat).val]; omega), (decDigits_ok n.toNat).val]
  congr 1
  omega
theorem text_ne {n : Int} (h0 : 0 ≤ n) (h1 : n ≤ 1000000000) : textOf n ≠ [] := by
  have ht : textOf n = Lib.decDigits n.toNat := by unfold textOf; rw [if_neg (by omega)]
  rw [ht]; exact (decDigits_ok _).ne
theorem text_none {n : Int} (h : n < 0 ∨ 1000000000 < n) : textOf n = [] := by unfold textOf; rw [if_pos h]

theorem dec_uniq : ∀ (n : Nat) (l : List UInt8), l.length = n → l ≠ [] → l.all isDig = true → (1 < l.length → l.head? ≠ some 48) → Lib.decDigits (decV l) = l := by
  intro n
  induction n with
  | zero => intro l hl h0; exact absurd (List.eq_nil_of_length_eq_zero hl) h0
  | succ n ih =>
    intro l hl h0 hd hh
    have hsp := List.dropLast_concat_getLast h0
    generalize l.getLast h0 = b at hsp
    generalize hm : l.dropLast = m at hsp
    subst hsp
    clear hm
    simp only [List.all_append, List.all_cons, List.all_nil, Bool.and_true, Bool.and_eq_true] at hd
    have hb : 48 ≤ b.toNat ∧ b.toNat ≤ 57 := by have := hd.2; simp [isDig] at this; exact this
    have hbb : UInt8.ofNat (48 + (b.toNat - 48)) = b := by rw [show 48 + (b.toNat - 48) = b.toNat by omega]; exact UInt8.ofNat_toNat
    have hv : decV (m ++ [b]) = 10 * decV m + (b.toNat - 48) := decFromV_app _ _ _
    by_cases hm0 : m = []
    · subst hm0
      rw [hv, show decV [] = 0 from rfl, Lib.decDigits, dif_pos (by omega)]
      simp only [Nat.mul_zero, Nat.zero_add, List.nil_append, hbb]
    · have hlen : 1 ≤ m.length := List.length_pos_iff.2 hm0
      have hmh : (m ++ [b]).head? = m.head? := by
        cases m with
        | nil => exact absurd rfl hm0
        | cons c r => rfl
      have hh1 : m.head? ≠ some 48 := by rw [← hmh]; exact hh (by simp; omega)
      have hi := ih m (by simp at hl; exact hl) hm0 hd.1 (fun _ => hh1)
      have hpos : 0 < decV m := by
        rcases Nat.eq_zero_or_pos (decV m) with h | h
        · rw [h] at hi
          have hz : Lib.decDigits 0 = [48] := by rw [Lib.decDigits]; rfl
          rw [hz] at hi
          rw [← hi] at hh1
          exact absurd rfl hh1
        · exact h
      rw [hv, Lib.decDigits, dif_neg (by omega), show (10 * decV m + (b.toNat - 48)) / 10 = decV m by omega, show (10 * decV m + (b.toNat - 48)) % 10 = b.toNat - 48 by omega, hi, hbb]
theorem text_of_num {l : List UInt8} {m : Int} (h : numR l = (m, 0)) : textOf m = l := by
  unfold numR at h
  split at h
  · rename_i hb
    split at h
    · cases h
    · rename_i hv
      simp only [Prod.mk.injEq, and_true] at h
      subst h
      have ht : textOf ((decV l : Nat) : Int) = Lib.decDigits (decV l) := by unfold textOf; rw [if_neg (by omega), Int.toNat_natCast]
      rw [ht]
      unfold numB at hb
      simp only [Bool.and_eq_true, Bool.not_eq_true', List.isEmpty_eq_false_iff] at hb
      refine dec_uniq l.length l rfl hb.1.1 hb.1.2 (fun hl e => ?_)
      have := hb.2
      simp [hl, e] at this
  · cases h
theorem numR_err {l : List UInt8} {m e : Int} (h : numR l = (m, e)) : (e = 0 ∧ 0 ≤ m ∧ m ≤ 1000000000) ∨ (e ≠ 0 ∧ m = 0 ∧ (e = 3 ∨ e = 6)) := by
  unfold numR at h
  split at h
  · split at h
    · cases h; simp
    · cases h; left; omega
  · cases h; simp

theorem dec_len (k : Nat) : ∀ u, u < 10 ^ (k + 1) → (Lib.decDigits u).length ≤ k + 1 := by
  induction k with
  | zero => intro u h; rw [Lib.decDigits, dif_pos (by simpa using h)]; simp
  | succ k ih =>
    intro u h
    rw [Lib.decDigits]
    split
    · simp
    · have := ih (u / 10) (by rw [Nat.pow_succ] at h; omega)
      simp
      omega
theorem text_len (n : Int) : (textOf n).length ≤ 10 := by
  unfold textOf
  split
  · simp
  · exact dec_len 9 _ (by omega)
theorem laidN_of {W : World} {l : List (String × DataW Unit)} (hm : ("strings.asciiSpace", Rows.laid_strings_asciiSpace) ∈ l) (hp : ("internal/strconv.uint64pow10", Rows.laid_internal_strconv_uint64pow10) ∈ l) (he : ("strconv.ErrRange", Rows.laid_strconv_ErrRange) ∈ l) (h : laidMet Tryd.prog l W) : LaidN W := by
  refine ⟨laidS_of hm h, laid_tab gPow (t := 149) (e := 86) (n := 20) (by kernel_rfl) Tryd.underlying149 Tryd.underlying86 (by kernel_rfl) (by kernel_rfl) h (by rw [show Lib.tabData .u64 Lib.pow10Tab = Rows.laid_internal_strconv_uint64pow10 by kernel_rfl]; exact hp), ?_⟩
  obtain ⟨g, t, cs, fuel, p, hg, hty, hvar, hd⟩ := laid_var h he
  obtain rfl := Option.some.inj (gErrR.symm.trans hg)
  have hty2 : (Tryd.prog.globals[4]?).map (·.type) = some 68 := by kernel_rfl
  obtain rfl := Option.some.inj (hty2.symm.trans hty)
  obtain ⟨_, u, v, hcs, _⟩ := iface_of_trod Tryd.underlying68 hd
  refine ⟨u, v, ?_⟩
  rw [hvar]
  congr 1
  exact Array.ext' hcs
end Go.Proofs.YthbaoocnnfnhnaaDoor
