/- Counts in whatever order: the same counts; one more: another text. -/
import Derived.Test.YtffcklhoeejlfaaDoorCoH
namespace Go.Proofs.YtffcklhoeejlfaaDoor
open Go.RowKit

/-- What digits stand for. -/
def digVal (l : List UInt8) : Nat := l.foldl (fun a d => a * 10 + (d.toNat - 48)) 0

theorem digVal_dec (u : Nat) : digVal (Lib.decDigits u) = u := by
  induction u using Nat.strongRecOn with
  | ind u ih =>
    unfold Lib.decDigits
    split
    · rename_i h
      simp [digVal]; omega
    · rename_i h
      have h2 := ih (u / 10) (by omega)
      unfold digVal at h2 ⊢
      rw [List.foldl_append, h2]
      simp; omega

theorem dec_inj {u v : Nat} (h : Lib.decDigits u = Lib.decDigits v) : u = v := by
  rw [← digVal_dec u, h, digVal_dec v]

/-- One more at k. -/
def bump (c : List Int) (k : Nat) : List Int := c.set k (c.getD k 0 + 1)

theorem bump_len (c : List Int) (k : Nat) : (bump c k).length = c.length := by simp [bump]
theorem bump_at (c : List Int) (hl : c.length = 13) (i k : Nat) (hi : i < 13) : (bump c i).getD k 0 = if i = k then c.getD k 0 + 1 else c.getD k 0 := by
  rw [bump, at_set c hl i k hi]
  split
  · rename_i h; rw [h]
  · rfl
theorem bump_comm (c : List Int) (i j : Nat) : bump (bump c i) j = bump (bump c j) i := by
  by_cases h : i = j
  · rw [h]
  · unfold bump
    have h1 : (c.set i (c.getD i 0 + 1)).getD j 0 = c.getD j 0 := by simp [List.getD, List.getElem?_set_ne h]
    have h2 : (c.set j (c.getD j 0 + 1)).getD i 0 = c.getD i 0 := by simp [List.getD, List.getElem?_set_ne (Ne.symm h)]
    rw [h1, h2, List.set_comm _ _ h]

/-- How often there was each remainder. -/
def tally (L : List Int) : List Int := L.foldl (fun c z => bump c (z % 13).toNat) zero13

theorem tally_nil : tally [] = zero13 := rfl
theorem tally_snoc (L : List Int) (z : Int) : tally (L ++ [z]) = bump (tally L) (z % 13).toNat := by simp [tally, List.foldl_append]
theorem tally_take (L : List Int) (i : Nat) (z : Int) (h : L[i]? = some z) : tally (L.take (i + 1)) = bump (tally (L.take i)) (z % 13).toNat := by
  rw [List.take_add_one, h]; exact tally_snoc _ z
theorem tally_len (L : List Int) : (tally L).length = 13 := by
  unfold tally
  have : ∀ (L : List Int) (c : List Int), c.length = 13 → (L.foldl (fun c z => bump c (z % 13).toNat) c).length = 13 := by
    intro L
    induction L with
    | nil => intro c h; exact h
    | cons x L ih => intro c h; exact ih _ (by rw [bump_len, h])
  exact this L _ rfl
theorem tally_perm {L M : List Int} (h : L.Perm M) : tally L = tally M :=
  h.foldl_eq' (fun _ _ _ _ z => bump_comm z _ _) _

theorem rem13 (z : Int) : (z % 13).toNat < 13 := by omega

theorem rev_ind {Q : List Int → Prop} (h0 : Q []) (h1 : ∀ L z, Q L → Q (L ++ [z])) (L : List Int) : Q L := by
  have h : ∀ M : List Int, Q M.reverse := by
    intro M
    induction M with
    | nil => exact h0
    | cons z M ih => rw [List.reverse_cons]; exact h1 _ z ih
  have := h L.reverse
  rwa [List.reverse_reverse] at this

theorem tally_in (L : List Int) (q : Nat) : 0 ≤ (tally L).getD q 0 ∧ (tally L).getD q 0 ≤ L.length := by
  induction L using rev_ind with
  | h0 => rw [tally_nil, zero13_at]; simp
  | h1 L z ih =>
    rw [tally_snoc, bump_at _ (tally_len L) _ _ (rem13 z)]
    simp only [List.length_append, List.length_cons, List.length_nil]
    split <;> omega

theorem sum_bump (c : List Int) (hl : c.length = 13) (i : Nat) (hi : i < 13) (k : Nat) : sumTo (bump c i) k = sumTo c k + if i < k ∧ i ≠ 0 then 1 else 0 := by
  induction k with
  | zero => simp [sumTo]
  | succ k ih =>
    rw [sumTo, sumTo, ih, bump_at c hl i k hi]
    by_cases h0 : k = 0
    · subst h0
      simp only [if_true]
      rw [if_neg (by omega), if_neg (by omega)]
    · simp only [h0, if_false]
      by_cases hik : i = k
      · subst hik
        rw [if_neg (by omega), if_pos rfl, if_pos ⟨by omega, h0⟩]; omega
      · rw [if_neg hik]
        by_cases h1 : i < k ∧ i ≠ 0
        · rw [if_pos h1, if_pos ⟨by omega, h1.2⟩]; omega
        · rw [if_neg h1, if_neg (by omega)]; omega

theorem tally_sum (L : List Int) : sumTo (tally L) 13 + (tally L).getD 0 0 = L.length := by
  induction L using rev_ind with
  | h0 => rw [tally_nil, zero13_at]; rfl
  | h1 L z ih =>
    rw [tally_snoc, bump_at _ (tally_len L) _ _ (rem13 z), sum_bump _ (tally_len L) _ (rem13 z)]
    have := rem13 z
    simp only [List.length_append, List.length_cons, List.length_nil]
    by_cases h : (z % 13).toNat = 0
    · rw [if_pos h, if_neg (by omega)]; omega
    · rw [if_neg h, if_pos ⟨this, h⟩]; omega

theorem bump_ne (c : List Int) (hl : c.length = 13) (k : Nat) (hk : k < 13) : c ≠ bump c k := by
  intro h
  have := congrArg (fun l => l.getD k 0) h
  simp only [bump_at c hl k k hk, if_true] at this
  omega

/-- The entry of k. -/
def entOf (c : List Int) (k : Nat) : List (List UInt8) := if 0 < c.getD k 0 then [nameL.getD k [] ++ [32] ++ Lib.itoa (c.getD k 0)] else []

theorem ents_off (c d : List Int) (k : Nat) (h : ∀ q, q ≠ k → d.getD q 0 = c.getD q 0) (j : Nat) (hj : j ≤ k) : ents d j = ents c j := by
  induction j with
  | zero => rfl
  | succ j ih => rw [ents_succ, ents_succ, ih (by omega), h j (by omega)]

theorem ents_split (c d : List Int) (k : Nat) (h : ∀ q, q ≠ k → d.getD q 0 = c.getD q 0) (j : Nat) (hj : k < j) :
    ∃ A B, ents c j = A ++ entOf c k ++ B ∧ ents d j = A ++ entOf d k ++ B := by
  induction j with
  | zero => omega
  | succ j ih =>
    by_cases hjk : j = k
    · subst hjk
      exact ⟨ents c j, [], by rw [ents_succ]; simp [entOf], by rw [ents_succ, ents_off c d j h j (Nat.le_refl _)]; simp [entOf]⟩
    · obtain ⟨A, B, h1, h2⟩ := ih (by omega)
      refine ⟨A, B ++ entOf c j, ?_, ?_⟩
      · rw [ents_succ, h1]; simp [entOf]
      · rw [ents_succ, h2, h j hjk]; simp [entOf]

theorem joinTail_app (sep : List UInt8) (A B : List (List UInt8)) : Lib.joinTail sep (A ++ B) = Lib.joinTail sep A ++ Lib.joinTail sep B := by simp [Lib.joinTail]
theorem joinTail_cons (sep e : List UInt8) (B : List (List UInt8)) : Lib.joinTail sep (e :: B) = sep ++ e ++ Lib.joinTail sep B := by simp [Lib.joinTail]

theorem join_at (A B : List (List UInt8)) (sep : List UInt8) : ∃ P S, ∀ e, Lib.join (A ++ [e] ++ B) sep = P ++ e ++ S := by
  cases A with
  | nil => exact ⟨[], Lib.joinTail sep B, fun e => by simp [Lib.join_cons]⟩
  | cons x A => exact ⟨x ++ Lib.joinTail sep A ++ sep, Lib.joinTail sep B, fun e => by simp [Lib.join_cons, joinTail_app, joinTail_cons]⟩

theorem join_more (A B : List (List UInt8)) (sep e : List UInt8) (he : e ≠ []) : (Lib.join (A ++ B) sep).length < (Lib.join (A ++ [e] ++ B) sep).length := by
  have h0 : 0 < e.length := List.length_pos_iff.mpr he
  cases A with
  | nil =>
    cases B with
    | nil => simpa [Lib.join_one, Lib.join_nil] using h0
    | cons y B => simp [Lib.join_cons, joinTail_cons]; omega
  | cons x A => simp [Lib.join_cons, joinTail_app, joinTail_cons]; omega

theorem text_ne (c : List Int) (hl : c.length = 13) (k : Nat) (hk : k < 13) (h0 : 0 ≤ c.getD k 0) :
    Lib.join (ents c 13) [44, 32] ≠ Lib.join (ents (bump c k) 13) [44, 32] := by
  obtain ⟨A, B, h1, h2⟩ := ents_split c (bump c k) k (fun q hq => by rw [bump_at c hl k q hk, if_neg (Ne.symm hq)]) 13 hk
  have hb : (bump c k).getD k 0 = c.getD k 0 + 1 := by rw [bump_at c hl k k hk, if_pos rfl]
  have he2 : entOf (bump c k) k = [nameL.getD k [] ++ [32] ++ Lib.itoa (c.getD k 0 + 1)] := by
    unfold entOf; rw [hb, if_pos (by omega)]
  intro hc
  rw [h1, h2, he2] at hc
  by_cases hz : 0 < c.getD k 0
  · have he1 : entOf c k = [nameL.getD k [] ++ [32] ++ Lib.itoa (c.getD k 0)] := by unfold entOf; rw [if_pos hz]
    obtain ⟨P, S, hps⟩ := join_at A B [44, 32]
    rw [he1, hps, hps] at hc
    have h3 := List.append_cancel_left (List.append_cancel_right hc)
    have h4 := List.append_cancel_left h3
    obtain ⟨n, hn⟩ := Int.eq_ofNat_of_zero_le h0
    rw [hn, show ((n : Int) + 1) = ((n + 1 : Nat) : Int) by omega, itoa_nat, itoa_nat] at h4
    have := dec_inj h4
    omega
  · have he1 : entOf c k = [] := by unfold entOf; rw [if_neg hz]
    rw [he1, List.append_nil] at hc
    have := join_more A B [44, 32] (nameL.getD k [] ++ [32] ++ Lib.itoa (c.getD k 0 + 1)) (by simp)
    rw [hc] at this
    omega

end Go.Proofs.YtffcklhoeejlfaaDoor
