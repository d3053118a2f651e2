/- Package backoff, function by function: what each call answers and what becomes of the object (contracts). -/
import Derived.Test.YtlcnahnondgofaaKit
namespace Go.Proofs.Ytlcnahnondgofaa
open Go.RowKit

/-- backoff.Next, in plain numbers. -/
def nextZ (now most : Int) : Int :=
  if now < 0 ∨ most < 0 ∨ now > 1073741824 ∨ most > 1073741824 then 0 else if 2 * now < most then 2 * now else most

/-- Block b holds a backoff. -/
def BO (w : World) (b : Nat) (l m n t : Int) : Prop :=
  w.heap[b]? = some (.cells #[.int .i64 l, .int .i64 m, .int .i64 n, .int .i64 t] 40 (0, 0))

abbrev at0 (b : Nat) : Value := .pointer (some ⟨b, 0, none⟩)

def BkPost (b : Nat) (l m n t v : Int) (w : World) (e : Ending) (w' : World) : Prop :=
  e = .returned (.int .i64 v) ∧ BO w' b l m n t ∧ Mod (· = b) w w'

def NewPost (l m : Int) (w : World) (e : Ending) (w' : World) : Prop :=
  ∃ b, e = .returned (.tuple #[at0 b, .int .i64 0]) ∧ w.heap.size ≤ b ∧ BO w' b l m l 0 ∧ Mod NoB w w'

theorem next_any (a b : Int) (ha : I64 a) (hb : I64 b) (w : World) :
    Calls Try.prog 9 #[.int .i64 a, .int .i64 b] w fun e w' => e = .returned (.int .i64 (nextZ a b)) ∧ w = w' := by
  obtain ⟨ha1, ha2⟩ := ha
  obtain ⟨hb1, hb2⟩ := hb
  go_enter Try.func9, Try.ntmps9
  go_wp2
  all_goals
    go_ret
    refine ⟨int_ret ?_, rfl⟩
    unfold nextZ
    (repeat' split) <;> omega

theorem rnext_any (a b : Int) (ha : I64 a) (hb : I64 b) (w : World) :
    Calls Try.prog 10 #[.int .i64 a, .int .i64 b] w fun e w' => e = .returned (.int .i64 (nextZ a b)) ∧ w = w' := by
  obtain ⟨ha1, ha2⟩ := ha
  obtain ⟨hb1, hb2⟩ := hb
  go_enter Try.func10, Try.ntmps10
  go_wp2
  all_goals
    go_ret
    refine ⟨int_ret ?_, rfl⟩
    unfold nextZ
    (repeat' split) <;> omega

end Go.Proofs.Ytlcnahnondgofaa
