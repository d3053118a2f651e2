/-
  NARROWER THAN 'FOR EVERY INPUT', by the rows' own cells (each row's printed sentence says how): CountAdds: laid · CountEach: laid · CountNone: laid · CountOrder: laid.
  DERIVED. THE GIVEN ROWS OF THIS SEAT. 4 by the template 'for every input the law returns true; each argument reads behind the call as it read before'; 0 by the template 'total and deterministic' (their statements: YtffcklhoeejlfaaDoorTotals.lean).
  GIVEN WITH THE SEED: the statements are not yours to turn. If you find one false, say at which input.
  Laid BY PROGRAM, IN A SANDBOX (cutbox-rows.mjs): the forced cells as the released guide's own fill.sh prints them over the translation 450277ee724cda36… (all of the seat's roots in one cut). By AI agents, Wed Nov 11 2026. No macro, syntax, notation, axiom, sorry.
-/
import Derived.Test.YtffcklhoeejlfaaDoorChecked
import GoSem.Claim
import GoSem.ClaimJoined
import GoSem.ClaimMapViews
import Derived.JoinedTies
import Derived.KernelRfl
namespace Go.Proofs.YtffcklhoeejlfaaDoor
/- THE CELL 'sum', in the pinned program and in every row, IS THE sha256 OF THE DUMP (.gsa) THAT YtffcklhoeejlfaaDoorProg.lean LOADS. Nothing in Lean hashes anything: it is a label: what it is worth is what the hold of that sum in a sandbox is worth. -/
noncomputable def Tryd.pinned : Pinned := { name := "ytffcklhoeejlfaadoor", sum := "450277ee724cda3629c56f85dd2410346b6991e0f781ee6a6cab5cf42e7e36b0", checked := Tryd.checked }
namespace Rows
def none {H : Type} : Left H := { results := [], args := [] }

/- WHAT THE LISTED PACKAGE-LEVEL VARIABLES READ AS WHEN THE CALL BEGINS. Each datum BY PROGRAM (the guide's laid-datum.mjs) off the statement by which the dump's own 'gosem.cut.vars' lays the variable. In a bare row this is a premise. The card (YtffcklhoeejlfaaDoorCards.lean) ties it to the program's text. -/
def laid_math_bits_deBruijn32tab {H : Type} : DataW H := .agg [.lit (.int .u8 0), .lit (.int .u8 1), .lit (.int .u8 28), .lit (.int .u8 2), .lit (.int .u8 29), .lit (.int .u8 14), .lit (.int .u8 24), .lit (.int .u8 3), .lit (.int .u8 30), .lit (.int .u8 22), .lit (.int .u8 20), .lit (.int .u8 15), .lit (.int .u8 25), .lit (.int .u8 17), .lit (.int .u8 4), .lit (.int .u8 8), .lit (.int .u8 31), .lit (.int .u8 27), .lit (.int .u8 13), .lit (.int .u8 23), .lit (.int .u8 21), .lit (.int .u8 19), .lit (.int .u8 16), .lit (.int .u8 7), .lit (.int .u8 26), .lit (.int .u8 12), .lit (.int .u8 18), .lit (.int .u8 6), .lit (.int .u8 11), .lit (.int .u8 5), .lit (.int .u8 10), .lit (.int .u8 9)]
def laid_math_bits_deBruijn64tab {H : Type} : DataW H := .agg [.lit (.int .u8 0), .lit (.int .u8 1), .lit (.int .u8 56), .lit (.int .u8 2), .lit (.int .u8 57), .lit (.int .u8 49), .lit (.int .u8 28), .lit (.int .u8 3), .lit (.int .u8 61), .lit (.int .u8 58), .lit (.int .u8 42), .lit (.int .u8 50), .lit (.int .u8 38), .lit (.int .u8 29), .lit (.int .u8 17), .lit (.int .u8 4), .lit (.int .u8 62), .lit (.int .u8 47), .lit (.int .u8 59), .lit (.int .u8 36), .lit (.int .u8 45), .lit (.int .u8 43), .lit (.int .u8 51), .lit (.int .u8 22), .lit (.int .u8 53), .lit (.int .u8 39), .lit (.int .u8 33), .lit (.int .u8 30), .lit (.int .u8 24), .lit (.int .u8 18), .lit (.int .u8 12), .lit (.int .u8 5), .lit (.int .u8 63), .lit (.int .u8 55), .lit (.int .u8 48), .lit (.int .u8 27), .lit (.int .u8 60), .lit (.int .u8 41), .lit (.int .u8 37), .lit (.int .u8 16), .lit (.int .u8 46), .lit (.int .u8 35), .lit (.int .u8 44), .lit (.int .u8 21), .lit (.int .u8 52), .lit (.int .u8 32), .lit (.int .u8 23), .lit (.int .u8 11), .lit (.int .u8 54), .lit (.int .u8 26), .lit (.int .u8 40), .lit (.int .u8 15), .lit (.int .u8 34), .lit (.int .u8 20), .lit (.int .u8 31), .lit (.int .u8 10), .lit (.int .u8 25), .lit (.int .u8 14), .lit (.int .u8 19), .lit (.int .u8 9), .lit (.int .u8 13), .lit (.int .u8 8), .lit (.int .u8 7), .lit (.int .u8 6)]
def laid_internal_strconv_uint64pow10 {H : Type} : DataW H := .agg [.lit (.int .u64 1), .lit (.int .u64 10), .lit (.int .u64 100), .lit (.int .u64 1000), .lit (.int .u64 10000), .lit (.int .u64 100000), .lit (.int .u64 1000000), .lit (.int .u64 10000000), .lit (.int .u64 100000000), .lit (.int .u64 1000000000), .lit (.int .u64 10000000000), .lit (.int .u64 100000000000), .lit (.int .u64 1000000000000), .lit (.int .u64 10000000000000), .lit (.int .u64 100000000000000), .lit (.int .u64 1000000000000000), .lit (.int .u64 10000000000000000), .lit (.int .u64 100000000000000000), .lit (.int .u64 1000000000000000000), .lit (.int .u64 10000000000000000000)]
def laid_chronobate_sane_names {H : Type} : DataW H := .agg [.lit (.string [116, 97, 107, 101, 110]), .lit (.string [115, 104, 111, 114, 116]), .lit (.string [117, 110, 107, 110, 111, 119, 110]), .lit (.string [114, 101, 116, 105, 114, 101, 100]), .lit (.string [105, 100, 108, 101]), .lit (.string [118, 101, 114, 115, 105, 111, 110]), .lit (.string [109, 111, 100, 101]), .lit (.string [111, 114, 105, 103, 105, 110]), .lit (.string [107, 105, 115, 115]), .lit (.string [108, 101, 97, 112]), .lit (.string [115, 116, 114, 97, 116, 117, 109]), .lit (.string [122, 101, 114, 111]), .lit (.string [115, 108, 111, 119])]

/-- 'chronobatelaw16.CountAdds': WHATEVER THE INPUT: true; the input reads as it did. -/
def countAddsSpec : ChangeSpec := { name := "countAdds", fn := fun _ => fun
  | [d] => { results := [.lit (.bool true)], args := [d] }
  | _ => none }
def countAddsRow : OpenClaim := { program := "ytffcklhoeejlfaadoor", sum := "450277ee724cda3629c56f85dd2410346b6991e0f781ee6a6cab5cf42e7e36b0", func := "chronobate/chronobatelaw16.CountAdds", spec := "countAdds", inPlace := ["internal/abi.NoEscape", "internal/bytealg.MakeNoZero"], named := ["chronobate/sane.names", "internal/strconv.uint64pow10", "math/bits.deBruijn32tab", "math/bits.deBruijn64tab"], apart := false, laid := [("math/bits.deBruijn32tab", laid_math_bits_deBruijn32tab), ("math/bits.deBruijn64tab", laid_math_bits_deBruijn64tab), ("internal/strconv.uint64pow10", laid_internal_strconv_uint64pow10), ("chronobate/sane.names", laid_chronobate_sane_names)] }
def CountAddsSaid : Prop := countAddsRow.holds Tryd.pinned (OpenSpec.ofChange countAddsSpec)

/-- ITS FALSE NEIGHBOUR: 'it returns false'. Refute it at one input. -/
def countAddsWrong : ChangeSpec := { name := "countAdds", fn := fun _ => fun
  | [d] => { results := [.lit (.bool false)], args := [d] }
  | _ => none }
def CountAddsWrongFalsely : Prop := countAddsRow.holds Tryd.pinned (OpenSpec.ofChange countAddsWrong)

/-- 'chronobatelaw16.CountEach': WHATEVER THE INPUT: true; the input reads as it did. -/
def countEachSpec : ChangeSpec := { name := "countEach", fn := fun _ => fun
  | [d1, d2] => { results := [.lit (.bool true)], args := [d1, d2] }
  | _ => none }
def countEachRow : OpenClaim := { program := "ytffcklhoeejlfaadoor", sum := "450277ee724cda3629c56f85dd2410346b6991e0f781ee6a6cab5cf42e7e36b0", func := "chronobate/chronobatelaw16.CountEach", spec := "countEach", inPlace := ["internal/abi.NoEscape", "internal/bytealg.MakeNoZero"], named := ["chronobate/sane.names", "internal/strconv.uint64pow10", "math/bits.deBruijn32tab", "math/bits.deBruijn64tab"], apart := false, laid := [("math/bits.deBruijn32tab", laid_math_bits_deBruijn32tab), ("math/bits.deBruijn64tab", laid_math_bits_deBruijn64tab), ("internal/strconv.uint64pow10", laid_internal_strconv_uint64pow10), ("chronobate/sane.names", laid_chronobate_sane_names)] }
def CountEachSaid : Prop := countEachRow.holds Tryd.pinned (OpenSpec.ofChange countEachSpec)

/-- ITS FALSE NEIGHBOUR: 'it returns false'. Refute it at one input. -/
def countEachWrong : ChangeSpec := { name := "countEach", fn := fun _ => fun
  | [d1, d2] => { results := [.lit (.bool false)], args := [d1, d2] }
  | _ => none }
def CountEachWrongFalsely : Prop := countEachRow.holds Tryd.pinned (OpenSpec.ofChange countEachWrong)

/-- 'chronobatelaw16.CountNone': WHATEVER THE INPUT: true; the input reads as it did. -/
def countNoneSpec : ChangeSpec := { name := "countNone", fn := fun _ => fun
  | [d] => { results := [.lit (.bool true)], args := [d] }
  | _ => none }
def countNoneRow : OpenClaim := { program := "ytffcklhoeejlfaadoor", sum := "450277ee724cda3629c56f85dd2410346b6991e0f781ee6a6cab5cf42e7e36b0", func := "chronobate/chronobatelaw16.CountNone", spec := "countNone", inPlace := ["internal/abi.NoEscape", "internal/bytealg.MakeNoZero"], named := ["chronobate/sane.names", "internal/strconv.uint64pow10", "math/bits.deBruijn32tab", "math/bits.deBruijn64tab"], apart := false, laid := [("math/bits.deBruijn32tab", laid_math_bits_deBruijn32tab), ("math/bits.deBruijn64tab", laid_math_bits_deBruijn64tab), ("internal/strconv.uint64pow10", laid_internal_strconv_uint64pow10), ("chronobate/sane.names", laid_chronobate_sane_names)] }
def CountNoneSaid : Prop := countNoneRow.holds Tryd.pinned (OpenSpec.ofChange countNoneSpec)

/-- ITS FALSE NEIGHBOUR: 'it returns false'. Refute it at one input. -/
def countNoneWrong : ChangeSpec := { name := "countNone", fn := fun _ => fun
  | [d] => { results := [.lit (.bool false)], args := [d] }
  | _ => none }
def CountNoneWrongFalsely : Prop := countNoneRow.holds Tryd.pinned (OpenSpec.ofChange countNoneWrong)

/-- 'chronobatelaw16.CountOrder': WHATEVER THE INPUT: true; the input reads as it did. -/
def countOrderSpec : ChangeSpec := { name := "countOrder", fn := fun _ => fun
  | [d1, d2, d3] => { results := [.lit (.bool true)], args := [d1, d2, d3] }
  | _ => none }
def countOrderRow : OpenClaim := { program := "ytffcklhoeejlfaadoor", sum := "450277ee724cda3629c56f85dd2410346b6991e0f781ee6a6cab5cf42e7e36b0", func := "chronobate/chronobatelaw16.CountOrder", spec := "countOrder", inPlace := ["internal/abi.NoEscape", "internal/bytealg.MakeNoZero"], named := ["chronobate/sane.names", "internal/strconv.uint64pow10", "math/bits.deBruijn32tab", "math/bits.deBruijn64tab"], apart := false, laid := [("math/bits.deBruijn32tab", laid_math_bits_deBruijn32tab), ("math/bits.deBruijn64tab", laid_math_bits_deBruijn64tab), ("internal/strconv.uint64pow10", laid_internal_strconv_uint64pow10), ("chronobate/sane.names", laid_chronobate_sane_names)] }
def CountOrderSaid : Prop := countOrderRow.holds Tryd.pinned (OpenSpec.ofChange countOrderSpec)

/-- ITS FALSE NEIGHBOUR: 'it returns false'. Refute it at one input. -/
def countOrderWrong : ChangeSpec := { name := "countOrder", fn := fun _ => fun
  | [d1, d2, d3] => { results := [.lit (.bool false)], args := [d1, d2, d3] }
  | _ => none }
def CountOrderWrongFalsely : Prop := countOrderRow.holds Tryd.pinned (OpenSpec.ofChange countOrderWrong)

/- THE SECOND FORM. 'bulk': how many values and letters a reading holds, each counted each time it is reached (what is shared counts as often as it is met; a slice's spare places count too). A statement '..UptoSaid' is the law's where the arguments, and the package variables that the reading takes, are together of bulk at most 1048576: NARROWER than '..Said'. Prove '..Said' where nothing that the law and all that it calls make is longer than what came in: it says more and counts as full. Else prove '..UptoSaid'. A law counts once. -/
mutual
def uptoBulk {H : Type} : DataW H → Nat
  | .lit (.string bytes) => bytes.length + 1
  | .lit _ => 1
  | .nil => 1
  | .ptr d => uptoBulk d + 1
  | .slice elems spare => uptoBulkAll elems + uptoBulkAll spare + 1
  | .agg parts => uptoBulkAll parts + 1
  | .iface _ d => uptoBulk d + 1
  | .map entries => uptoBulkEntries entries + 1
  | .held _ => 1
def uptoBulkAll {H : Type} : List (DataW H) → Nat
  | [] => 0
  | d :: r => uptoBulk d + uptoBulkAll r
def uptoBulkEntries {H : Type} : List (Lit × DataW H) → Nat
  | [] => 0
  | x :: r => uptoBulkEntry x + uptoBulkEntries r
def uptoBulkEntry {H : Type} : Lit × DataW H → Nat
  | (.string bytes, d) => bytes.length + uptoBulk d + 1
  | (_, d) => uptoBulk d + 1
 end
def uptoSmall : (H : Type) → List (DataW H) → Bool := fun _ ds => decide (uptoBulkAll ds ≤ 1048576)
def OpenSpec.upto (s : _root_.Go.ChangeSpec) : _root_.Go.OpenSpec := { _root_.Go.OpenSpec.ofChange s with cond := some uptoSmall }

/-- 'chronobatelaw16.CountAdds', WHERE WHAT IT READS IS OF BULK AT MOST 1048576: true; the input reads as it did. -/
def countAddsUptoRow : OpenClaim := { program := "ytffcklhoeejlfaadoor", sum := "450277ee724cda3629c56f85dd2410346b6991e0f781ee6a6cab5cf42e7e36b0", func := "chronobate/chronobatelaw16.CountAdds", spec := "countAdds", inPlace := ["internal/abi.NoEscape", "internal/bytealg.MakeNoZero"], named := ["chronobate/sane.names", "internal/strconv.uint64pow10", "math/bits.deBruijn32tab", "math/bits.deBruijn64tab"], apart := false, laid := [("math/bits.deBruijn32tab", laid_math_bits_deBruijn32tab), ("math/bits.deBruijn64tab", laid_math_bits_deBruijn64tab), ("internal/strconv.uint64pow10", laid_internal_strconv_uint64pow10), ("chronobate/sane.names", laid_chronobate_sane_names)], narrowed := true }
def CountAddsUptoSaid : Prop := countAddsUptoRow.holds Tryd.pinned (OpenSpec.upto countAddsSpec)

/-- 'chronobatelaw16.CountEach', WHERE WHAT IT READS IS OF BULK AT MOST 1048576: true; the input reads as it did. -/
def countEachUptoRow : OpenClaim := { program := "ytffcklhoeejlfaadoor", sum := "450277ee724cda3629c56f85dd2410346b6991e0f781ee6a6cab5cf42e7e36b0", func := "chronobate/chronobatelaw16.CountEach", spec := "countEach", inPlace := ["internal/abi.NoEscape", "internal/bytealg.MakeNoZero"], named := ["chronobate/sane.names", "internal/strconv.uint64pow10", "math/bits.deBruijn32tab", "math/bits.deBruijn64tab"], apart := false, laid := [("math/bits.deBruijn32tab", laid_math_bits_deBruijn32tab), ("math/bits.deBruijn64tab", laid_math_bits_deBruijn64tab), ("internal/strconv.uint64pow10", laid_internal_strconv_uint64pow10), ("chronobate/sane.names", laid_chronobate_sane_names)], narrowed := true }
def CountEachUptoSaid : Prop := countEachUptoRow.holds Tryd.pinned (OpenSpec.upto countEachSpec)

/-- 'chronobatelaw16.CountNone', WHERE WHAT IT READS IS OF BULK AT MOST 1048576: true; the input reads as it did. -/
def countNoneUptoRow : OpenClaim := { program := "ytffcklhoeejlfaadoor", sum := "450277ee724cda3629c56f85dd2410346b6991e0f781ee6a6cab5cf42e7e36b0", func := "chronobate/chronobatelaw16.CountNone", spec := "countNone", inPlace := ["internal/abi.NoEscape", "internal/bytealg.MakeNoZero"], named := ["chronobate/sane.names", "internal/strconv.uint64pow10", "math/bits.deBruijn32tab", "math/bits.deBruijn64tab"], apart := false, laid := [("math/bits.deBruijn32tab", laid_math_bits_deBruijn32tab), ("math/bits.deBruijn64tab", laid_math_bits_deBruijn64tab), ("internal/strconv.uint64pow10", laid_internal_strconv_uint64pow10), ("chronobate/sane.names", laid_chronobate_sane_names)], narrowed := true }
def CountNoneUptoSaid : Prop := countNoneUptoRow.holds Tryd.pinned (OpenSpec.upto countNoneSpec)

/-- 'chronobatelaw16.CountOrder', WHERE WHAT IT READS IS OF BULK AT MOST 1048576: true; the input reads as it did. -/
def countOrderUptoRow : OpenClaim := { program := "ytffcklhoeejlfaadoor", sum := "450277ee724cda3629c56f85dd2410346b6991e0f781ee6a6cab5cf42e7e36b0", func := "chronobate/chronobatelaw16.CountOrder", spec := "countOrder", inPlace := ["internal/abi.NoEscape", "internal/bytealg.MakeNoZero"], named := ["chronobate/sane.names", "internal/strconv.uint64pow10", "math/bits.deBruijn32tab", "math/bits.deBruijn64tab"], apart := false, laid := [("math/bits.deBruijn32tab", laid_math_bits_deBruijn32tab), ("math/bits.deBruijn64tab", laid_math_bits_deBruijn64tab), ("internal/strconv.uint64pow10", laid_internal_strconv_uint64pow10), ("chronobate/sane.names", laid_chronobate_sane_names)], narrowed := true }
def CountOrderUptoSaid : Prop := countOrderUptoRow.holds Tryd.pinned (OpenSpec.upto countOrderSpec)

end Rows
end Go.Proofs.YtffcklhoeejlfaaDoor
