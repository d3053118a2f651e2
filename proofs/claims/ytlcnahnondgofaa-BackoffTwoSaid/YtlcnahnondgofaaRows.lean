/-
  No cell of these rows narrows 'for every input' (looked for: loops, veiled, ifaces, maps, wideKeys, modest, calm, conditions, laid).
  DERIVED. THE GIVEN ROWS OF THIS SEAT. 5 by the template 'for every input the law returns true; each argument reads behind the call as it read before'; 0 by the template 'total and deterministic' (their statements: YtlcnahnondgofaaTotals.lean).
  GIVEN WITH THE SEED: the statements are not yours to turn. If you find one false, say at which input.
  Laid BY PROGRAM, IN A SANDBOX (cutbox-rows.mjs): the forced cells as the released guide's own fill.sh prints them over the translation a11cbe7e86e8d79b… (all of the seat's roots in one cut). By AI agents, Wed Nov 11 2026. No macro, syntax, notation, axiom, sorry.
-/
import Derived.Test.YtlcnahnondgofaaChecked
import GoSem.Claim
import GoSem.ClaimJoined
import GoSem.ClaimMapViews
import Derived.JoinedTies
import Derived.KernelRfl
namespace Go.Proofs.Ytlcnahnondgofaa
/- THE CELL 'sum', in the pinned program and in every row, IS THE sha256 OF THE DUMP (.gsa) THAT YtlcnahnondgofaaProg.lean LOADS. Nothing in Lean hashes anything: it is a label: what it is worth is what the hold of that sum in a sandbox is worth. -/
noncomputable def Try.pinned : Pinned := { name := "ytlcnahnondgofaa", sum := "a11cbe7e86e8d79b2037fe091de0782edfe5bb4226f2cc00762129f8ec9579fc", checked := Try.checked }
namespace Rows
def none {H : Type} : Left H := { results := [], args := [] }

/-- 'chronobatelaw13.BackoffNexts': WHATEVER THE INPUT: true; the input reads as it did. -/
def backoffNextsSpec : ChangeSpec := { name := "backoffNexts", fn := fun _ => fun
  | [d1, d2] => { results := [.lit (.bool true)], args := [d1, d2] }
  | _ => none }
def backoffNextsRow : OpenClaim := { program := "ytlcnahnondgofaa", sum := "a11cbe7e86e8d79b2037fe091de0782edfe5bb4226f2cc00762129f8ec9579fc", func := "chronobate/chronobatelaw13.BackoffNexts", spec := "backoffNexts", unfollowed := true, recurses := true, apart := false }
def BackoffNextsSaid : Prop := backoffNextsRow.holds Try.pinned (OpenSpec.ofChange backoffNextsSpec)

/-- ITS FALSE NEIGHBOUR: 'it returns false'. Refute it at one input. -/
def backoffNextsWrong : ChangeSpec := { name := "backoffNexts", fn := fun _ => fun
  | [d1, d2] => { results := [.lit (.bool false)], args := [d1, d2] }
  | _ => none }
def BackoffNextsWrongFalsely : Prop := backoffNextsRow.holds Try.pinned (OpenSpec.ofChange backoffNextsWrong)

/-- 'chronobatelaw13.BackoffNext': WHATEVER THE INPUT: true; the input reads as it did. -/
def backoffNextSpec : ChangeSpec := { name := "backoffNext", fn := fun _ => fun
  | [d1, d2] => { results := [.lit (.bool true)], args := [d1, d2] }
  | _ => none }
def backoffNextRow : OpenClaim := { program := "ytlcnahnondgofaa", sum := "a11cbe7e86e8d79b2037fe091de0782edfe5bb4226f2cc00762129f8ec9579fc", func := "chronobate/chronobatelaw13.BackoffNext", spec := "backoffNext", unfollowed := true, recurses := true, apart := false }
def BackoffNextSaid : Prop := backoffNextRow.holds Try.pinned (OpenSpec.ofChange backoffNextSpec)

/-- ITS FALSE NEIGHBOUR: 'it returns false'. Refute it at one input. -/
def backoffNextWrong : ChangeSpec := { name := "backoffNext", fn := fun _ => fun
  | [d1, d2] => { results := [.lit (.bool false)], args := [d1, d2] }
  | _ => none }
def BackoffNextWrongFalsely : Prop := backoffNextRow.holds Try.pinned (OpenSpec.ofChange backoffNextWrong)

/-- 'chronobatelaw13.BackoffActs': WHATEVER THE INPUT: true; the input reads as it did. -/
def backoffActsSpec : ChangeSpec := { name := "backoffActs", fn := fun _ => fun
  | [d1, d2, d3] => { results := [.lit (.bool true)], args := [d1, d2, d3] }
  | _ => none }
def backoffActsRow : OpenClaim := { program := "ytlcnahnondgofaa", sum := "a11cbe7e86e8d79b2037fe091de0782edfe5bb4226f2cc00762129f8ec9579fc", func := "chronobate/chronobatelaw13.BackoffActs", spec := "backoffActs", unfollowed := true, recurses := true, apart := false }
def BackoffActsSaid : Prop := backoffActsRow.holds Try.pinned (OpenSpec.ofChange backoffActsSpec)

/-- ITS FALSE NEIGHBOUR: 'it returns false'. Refute it at one input. -/
def backoffActsWrong : ChangeSpec := { name := "backoffActs", fn := fun _ => fun
  | [d1, d2, d3] => { results := [.lit (.bool false)], args := [d1, d2, d3] }
  | _ => none }
def BackoffActsWrongFalsely : Prop := backoffActsRow.holds Try.pinned (OpenSpec.ofChange backoffActsWrong)

/-- 'chronobatelaw13.BackoffBounds': WHATEVER THE INPUT: true; the input reads as it did. -/
def backoffBoundsSpec : ChangeSpec := { name := "backoffBounds", fn := fun _ => fun
  | [d1, d2] => { results := [.lit (.bool true)], args := [d1, d2] }
  | _ => none }
def backoffBoundsRow : OpenClaim := { program := "ytlcnahnondgofaa", sum := "a11cbe7e86e8d79b2037fe091de0782edfe5bb4226f2cc00762129f8ec9579fc", func := "chronobate/chronobatelaw13.BackoffBounds", spec := "backoffBounds", unfollowed := true, recurses := true, apart := false }
def BackoffBoundsSaid : Prop := backoffBoundsRow.holds Try.pinned (OpenSpec.ofChange backoffBoundsSpec)

/-- ITS FALSE NEIGHBOUR: 'it returns false'. Refute it at one input. -/
def backoffBoundsWrong : ChangeSpec := { name := "backoffBounds", fn := fun _ => fun
  | [d1, d2] => { results := [.lit (.bool false)], args := [d1, d2] }
  | _ => none }
def BackoffBoundsWrongFalsely : Prop := backoffBoundsRow.holds Try.pinned (OpenSpec.ofChange backoffBoundsWrong)

/-- 'chronobatelaw13.BackoffTwo': WHATEVER THE INPUT: true; the input reads as it did. -/
def backoffTwoSpec : ChangeSpec := { name := "backoffTwo", fn := fun _ => fun
  | [d1, d2, d3] => { results := [.lit (.bool true)], args := [d1, d2, d3] }
  | _ => none }
def backoffTwoRow : OpenClaim := { program := "ytlcnahnondgofaa", sum := "a11cbe7e86e8d79b2037fe091de0782edfe5bb4226f2cc00762129f8ec9579fc", func := "chronobate/chronobatelaw13.BackoffTwo", spec := "backoffTwo", unfollowed := true, recurses := true, apart := false }
def BackoffTwoSaid : Prop := backoffTwoRow.holds Try.pinned (OpenSpec.ofChange backoffTwoSpec)

/-- ITS FALSE NEIGHBOUR: 'it returns false'. Refute it at one input. -/
def backoffTwoWrong : ChangeSpec := { name := "backoffTwo", fn := fun _ => fun
  | [d1, d2, d3] => { results := [.lit (.bool false)], args := [d1, d2, d3] }
  | _ => none }
def BackoffTwoWrongFalsely : Prop := backoffTwoRow.holds Try.pinned (OpenSpec.ofChange backoffTwoWrong)

/- THE SECOND FORM. 'bulk': how many values and letters a reading holds, each counted each time it is reached (what is shared counts as often as it is met; a slice's spare places count too). A statement '..UptoSaid' is the law's where the arguments, and the package variables that the reading takes, are together of bulk at most 1048576: NARROWER than '..Said'. Prove '..Said' where nothing that the law and all that it calls make is longer than what came in: it says more and counts as full. Else prove '..UptoSaid'. A law counts once. -/
mutual
def uptoBulk {H : Type} : DataW H → Nat
  | .lit (.string bytes) => bytes.length + 1
  | .lit _ => 1
  | .nil => 1
  | .ptr d => uptoBulk d + 1
  | .slice elems spare => uptoBulkAll elems + uptoBulkAll spare + 1
  | .agg parts => uptoBulkAll parts + 1
  | .iface _ d => uptoBulk d + 1
  | .map entries => uptoBulkEntries entries + 1
  | .held _ => 1
def uptoBulkAll {H : Type} : List (DataW H) → Nat
  | [] => 0
  | d :: r => uptoBulk d + uptoBulkAll r
def uptoBulkEntries {H : Type} : List (Lit × DataW H) → Nat
  | [] => 0
  | x :: r => uptoBulkEntry x + uptoBulkEntries r
def uptoBulkEntry {H : Type} : Lit × DataW H → Nat
  | (.string bytes, d) => bytes.length + uptoBulk d + 1
  | (_, d) => uptoBulk d + 1
 end
def uptoSmall : (H : Type) → List (DataW H) → Bool := fun _ ds => decide (uptoBulkAll ds ≤ 1048576)
def OpenSpec.upto (s : _root_.Go.ChangeSpec) : _root_.Go.OpenSpec := { _root_.Go.OpenSpec.ofChange s with cond := some uptoSmall }

/-- 'chronobatelaw13.BackoffNexts', WHERE WHAT IT READS IS OF BULK AT MOST 1048576: true; the input reads as it did. -/
def backoffNextsUptoRow : OpenClaim := { program := "ytlcnahnondgofaa", sum := "a11cbe7e86e8d79b2037fe091de0782edfe5bb4226f2cc00762129f8ec9579fc", func := "chronobate/chronobatelaw13.BackoffNexts", spec := "backoffNexts", unfollowed := true, recurses := true, apart := false, narrowed := true }
def BackoffNextsUptoSaid : Prop := backoffNextsUptoRow.holds Try.pinned (OpenSpec.upto backoffNextsSpec)

/-- 'chronobatelaw13.BackoffNext', WHERE WHAT IT READS IS OF BULK AT MOST 1048576: true; the input reads as it did. -/
def backoffNextUptoRow : OpenClaim := { program := "ytlcnahnondgofaa", sum := "a11cbe7e86e8d79b2037fe091de0782edfe5bb4226f2cc00762129f8ec9579fc", func := "chronobate/chronobatelaw13.BackoffNext", spec := "backoffNext", unfollowed := true, recurses := true, apart := false, narrowed := true }
def BackoffNextUptoSaid : Prop := backoffNextUptoRow.holds Try.pinned (OpenSpec.upto backoffNextSpec)

/-- 'chronobatelaw13.BackoffActs', WHERE WHAT IT READS IS OF BULK AT MOST 1048576: true; the input reads as it did. -/
def backoffActsUptoRow : OpenClaim := { program := "ytlcnahnondgofaa", sum := "a11cbe7e86e8d79b2037fe091de0782edfe5bb4226f2cc00762129f8ec9579fc", func := "chronobate/chronobatelaw13.BackoffActs", spec := "backoffActs", unfollowed := true, recurses := true, apart := false, narrowed := true }
def BackoffActsUptoSaid : Prop := backoffActsUptoRow.holds Try.pinned (OpenSpec.upto backoffActsSpec)

/-- 'chronobatelaw13.BackoffBounds', WHERE WHAT IT READS IS OF BULK AT MOST 1048576: true; the input reads as it did. -/
def backoffBoundsUptoRow : OpenClaim := { program := "ytlcnahnondgofaa", sum := "a11cbe7e86e8d79b2037fe091de0782edfe5bb4226f2cc00762129f8ec9579fc", func := "chronobate/chronobatelaw13.BackoffBounds", spec := "backoffBounds", unfollowed := true, recurses := true, apart := false, narrowed := true }
def BackoffBoundsUptoSaid : Prop := backoffBoundsUptoRow.holds Try.pinned (OpenSpec.upto backoffBoundsSpec)

/-- 'chronobatelaw13.BackoffTwo', WHERE WHAT IT READS IS OF BULK AT MOST 1048576: true; the input reads as it did. -/
def backoffTwoUptoRow : OpenClaim := { program := "ytlcnahnondgofaa", sum := "a11cbe7e86e8d79b2037fe091de0782edfe5bb4226f2cc00762129f8ec9579fc", func := "chronobate/chronobatelaw13.BackoffTwo", spec := "backoffTwo", unfollowed := true, recurses := true, apart := false, narrowed := true }
def BackoffTwoUptoSaid : Prop := backoffTwoUptoRow.holds Try.pinned (OpenSpec.upto backoffTwoSpec)

end Rows
end Go.Proofs.Ytlcnahnondgofaa
