/- The document's example of chapter 6. -/
import Derived.Test.YtdcmjjinmnbaoaaDoorCgC
import Derived.Test.YtdcmjjinmnbaoaaDoorLxS
namespace Go.Proofs.YtdcmjjinmnbaoaaDoor
open Go.RowKit

def aliveC : List UInt8 := [115, 101, 114, 118, 101, 114, 32, 55, 10, 113, 117, 111, 114, 117, 109, 32, 49, 10, 112, 111, 108, 108, 32, 52, 32, 49, 54, 10, 100, 101, 108, 97, 121, 32, 49, 48, 48, 48, 10, 115, 108, 101, 119, 32, 53, 48, 48]
theorem aliveC_1 : (parseR aliveC).1 = ⟨[7], 1, 4, 16, 1000, 500⟩ := by kernel_rfl
theorem aliveC_2 : (parseR aliveC).2.1 = 0 := by kernel_rfl
theorem aliveC_3 : (parseR aliveC).2.2 = 0 := by kernel_rfl

/-- How a text's parse ends, said of the values. -/
theorem ParseOut.vals {r : Cfg × Int × Int} {w w' : World} {e : Ending} (h : ParseOut r w e w') {a : Cfg} {n er : Int} (h1 : r.1 = a) (h2 : r.2.1 = n) (h3 : r.2.2 = er) :
    ∃ p c, e = .returned (.tuple #[a.val p c, .int .i64 n, .int .i64 er]) ∧ IntsL w' p a.srv ∧ a.srv.length ≤ c ∧ (∀ b off, p = some ⟨b, off, none⟩ → w.heap.size ≤ b) ∧ a.srv.length ≤ 16 := by
  subst h1; subst h2; subst h3; exact h

set_option maxRecDepth 100000 in
set_option maxHeartbeats 4000000 in
theorem calive_any (w : World) (hL : LaidN w) : Calls Tryd.prog 9 #[] w fun e w' => e = .returned (.bool true) ∧ Mod NoB w w' := by
  have hl0 := parse_any aliveC (by decide) w hL
  have hl : Calls Tryd.prog 10 #[.string ⟨#[115, 101, 114, 118, 101, 114, 32, 55, 10, 113, 117, 111, 114, 117, 109, 32, 49, 10, 112, 111, 108, 108, 32, 52, 32, 49, 54, 10, 100, 101, 108, 97, 121, 32, 49, 48, 48, 48, 10, 115, 108, 101, 119, 32, 53, 48, 48]⟩] w fun e w' => ParseOut (parseR aliveC) w e w' ∧ Mod NoB w w' := hl0
  replace hl := hide hl
  clear hl0
  go_enter Tryd.func9, Tryd.ntmps9
  go_wp2_with fail
  refine hl.out.mono ?_
  rintro e w1 ⟨ho, hm⟩
  obtain ⟨p, c, rfl, hints, hc, -, -⟩ := ho.vals aliveC_1 aliveC_2 aliveC_3
  obtain ⟨b, off, rfl, hb, hcell⟩ := hints 0 (by decide)
  replace hm := hide hm
  replace hints := hide hints
  have hcell' : w1.cell? ⟨b, off, none⟩ = some (.int .i64 7) := hcell
  have hlt := lt_of_cell hcell'
  clear hcell
  go_wp2
  go_ret
  exact ⟨rfl, hm.out.alloc _⟩
end Go.Proofs.YtdcmjjinmnbaoaaDoor
