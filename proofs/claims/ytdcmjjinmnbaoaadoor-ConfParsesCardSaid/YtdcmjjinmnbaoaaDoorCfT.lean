/- conf.Parse, walked. -/
import Derived.Test.YtdcmjjinmnbaoaaDoorCfS
import Derived.Test.YtdcmjjinmnbaoaaDoorCfO
import Derived.Test.YtdcmjjinmnbaoaaDoorKitMapR
namespace Go.Proofs.YtdcmjjinmnbaoaaDoor
open Go.RowKit

theorem fieldsGo_len : ∀ (l cur : List UInt8), ∀ x ∈ Lib.fieldsGo cur l, x.length ≤ cur.length + l.length := by
  intro l
  induction l with
  | nil =>
    intro cur x hx
    rw [go_end] at hx
    split at hx
    · cases hx
    · simp at hx; subst hx; simp
  | cons b l ih =>
    intro cur x hx
    cases hb : Lib.isSp b with
    | true =>
      rw [go_sp hb] at hx
      rcases List.mem_append.1 hx with h | h
      · split at h
        · cases h
        · simp at h; subst h; simp
      · have := ih [] x h
        simp at this ⊢; omega
    | false =>
      rw [go_on hb] at hx
      have := ih (cur ++ [b]) x hx
      simp at this ⊢; omega
theorem words_each (l : List UInt8) (k : Nat) : ∀ s ∈ wordsOf l k, s.length ≤ l.length := by
  intro s hs
  have := fieldsGo_len (bare l k) [] s hs
  have h2 : (bare l k).length ≤ l.length := Nat.le_trans (upTo_le _ _) (Nat.le_trans (upTo_le _ _) (rest_len 10 l k))
  simp at this; omega
/-- What each line of a text is. -/
theorem linesTo_each (l : List UInt8) (k : Nat) : ∀ x ∈ linesTo l k, x.1 ≤ k ∧ 0 < x.2.length ∧ x.2.length ≤ l.length ∧ ∀ s ∈ x.2, s.length ≤ l.length := by
  induction k with
  | zero => intro x hx; cases hx
  | succ k ih =>
    intro x hx
    unfold linesTo at hx
    rcases List.mem_append.mp hx with h | h
    · obtain ⟨a, b⟩ := ih x h
      exact ⟨by omega, b⟩
    · split at h
      · rename_i h0
        simp at h; subst h; exact ⟨Nat.le_refl _, h0, words_len l k, words_each l k⟩
      · cases h
theorem take_srv {k : Nat} {xs : List Int} {st : St} (h : (takeR k xs st).1 = 0) (h16 : st.1.srv.length ≤ 16) : (takeR k xs st).2.1.srv.length ≤ 16 := by
  unfold takeR at h ⊢
  split
  · rename_i hk
    rw [if_pos hk] at h
    split
    · rename_i h2; rw [if_pos h2] at h; simp at h
    · rename_i h2
      rw [if_neg h2] at h
      split
      · rename_i h3; rw [if_pos h3] at h; simp at h
      · simp; omega
  · rename_i hk
    show (putF st.1 k xs).srv.length ≤ 16
    unfold putF
    split <;> exact h16
theorem line_srv {ws : List (List UInt8)} {st : St} (h : (lineR ws st).1 = 0) (h16 : st.1.srv.length ≤ 16) : (lineR ws st).2.1.srv.length ≤ 16 := by
  unfold lineR at h ⊢
  cases hk : keyOf (ws.getD 0 []) with
  | none => rw [hk] at h; simp at h
  | some k =>
    rw [hk] at h
    change (lineK k ws st).1 = 0 at h
    show (lineK k ws st).2.1.srv.length ≤ 16
    unfold lineK at h ⊢
    split
    · exact h16
    · rename_i h1
      rw [if_neg h1] at h
      split
      · exact h16
      · rename_i h2
        rw [if_neg h2] at h
        split
        · exact h16
        · rename_i h3
          rw [if_neg h3] at h
          exact take_srv h h16

/-- How a text's parse ends. -/
def ParseOut (r : Cfg × Int × Int) (w : World) (e : Ending) (w' : World) : Prop :=
  ∃ p c, e = .returned (.tuple #[r.1.val p c, .int .i64 r.2.1, .int .i64 r.2.2]) ∧ IntsL w' p r.1.srv ∧ r.1.srv.length ≤ c ∧ (∀ b off, p = some ⟨b, off, none⟩ → w.heap.size ≤ b) ∧ r.1.srv.length ≤ 16

theorem ParseOut.err {at_ er : Int} {w w' : World} : ParseOut (cfg0, at_, er) w (.returned (.tuple #[.agg #[.slice none 0 0, .int .i64 0, .int .i64 0, .int .i64 0, .int .i64 0, .int .i64 0], .int .i64 at_, .int .i64 er])) w' :=
  ⟨none, 0, rfl, fun j hj => by simp [cfg0] at hj, by simp [cfg0], (fun b off e => by cases e), by simp [cfg0]⟩
end Go.Proofs.YtdcmjjinmnbaoaaDoor
