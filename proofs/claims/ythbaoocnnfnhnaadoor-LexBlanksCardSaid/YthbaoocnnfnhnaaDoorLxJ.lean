/- The document's example of chapter 5. -/
import Derived.Test.YthbaoocnnfnhnaaDoorLxI
namespace Go.Proofs.YthbaoocnnfnhnaaDoor
open Go.RowKit

/-- What the laws of chapter 5 take of the library's tables. -/
def LaidS (w : World) : Prop := Lib.TabIs Tryd.prog w "strings.asciiSpace" .u8 Lib.asciiSpaceTab
theorem gSpace : Tryd.prog.globalNamed "strings.asciiSpace" = some 0 := by kernel_rfl
theorem LaidS.mod {w w' : World} (h : LaidS w) (hm : Mod NoB w w') : LaidS w' := Mod.var hm gSpace id h

theorem rlines_long (l : List UInt8) (hl : 65536 < l.length) (h2 : l.length ≤ 9223372036854775807) (w : World) :
    Calls Tryd.prog 12 #[.string (bs l)] w fun e w' => e = .returned (.tuple #[.slice none 0 0, .int .i64 0, .int .i64 7]) ∧ Mod NoB w w' := by
  go_enter Tryd.func12, Tryd.ntmps12
  go_wp2
  go_ret3
  exact ⟨rfl, Mod.refl _ _⟩
end Go.Proofs.YthbaoocnnfnhnaaDoor
