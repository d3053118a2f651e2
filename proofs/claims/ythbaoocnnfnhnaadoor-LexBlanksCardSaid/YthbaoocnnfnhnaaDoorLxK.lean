/- Chapter 5's rows: what their list gives; a text handed in. -/
import Derived.Test.YthbaoocnnfnhnaaDoorCards
import Derived.Test.YthbaoocnnfnhnaaDoorTie
import Derived.Test.YthbaoocnnfnhnaaDoorLxJ
import Derived.Lay
import Derived.Deep.DeepWitnessRowRef
import Derived.ChangeMaps5
namespace Go.Proofs.YthbaoocnnfnhnaaDoor
open Go.ChangeShapes Go.WideShapes Go.ChangeAt Go.RowKit

theorem laidS_of {W : World} {l : List (String × DataW Unit)} (hm : ("strings.asciiSpace", Rows.laid_strings_asciiSpace) ∈ l) (h : laidMet Tryd.prog l W) : LaidS W :=
  laid_tab gSpace (t := 79) (e := 5) (n := 256) (by kernel_rfl) Tryd.underlying79 Tryd.underlying5 (by kernel_rfl) (by kernel_rfl) h (by rw [show Lib.tabData .u8 Lib.asciiSpaceTab = Rows.laid_strings_asciiSpace by kernel_rfl]; exact hm)

theorem open_bs {H : Type} {enc : TypeId × Value → H} {P : Program} {w : World} {r : Reach} {b0 : Nat} {t : TypeId} {v : Value} {d : DataW H} {ps : List MemPlace} (ht : P.underlying t = some .string) (hval : Value.okWide P w r b0 t v) (hd : DataW.Trod enc P w 0 (fun _ => true) true t v d ps) :
    ∃ l : List UInt8, v = .string (bs l) ∧ l.length ≤ 9223372036854775807 := by
  obtain ⟨s, rfl, _, _, h⟩ := Go.ChangeMaps.open_string ht hval hd
  exact ⟨s.data.toList, rfl, h⟩
end Go.Proofs.YthbaoocnnfnhnaaDoor
