/- What a word of a config does with its numbers. -/
import Derived.Test.YtdcmjjinmnbaoaaDoorCfC
import Derived.Test.YtdcmjjinmnbaoaaDoorCfG
namespace Go.Proofs.YtdcmjjinmnbaoaaDoor
open Go.RowKit

/-- Numbers laid into cells, the first i of them. -/
def setF (fs : List Nat) (xs : List Int) (cs : Array Value) : Nat → Array Value
  | 0 => cs
  | i + 1 => (setF fs xs cs i).setIfInBounds (fs.getD i 0) (.int .i64 (xs.getD i 0))
theorem setF_size (fs : List Nat) (xs : List Int) (cs : Array Value) (i : Nat) : (setF fs xs cs i).size = cs.size := by
  induction i with
  | zero => rfl
  | succ i ih => rw [setF, Array.size_setIfInBounds, ih]

set_option maxRecDepth 100000 in
set_option maxHeartbeats 4000000 in
theorem take_any (bc bl ba : Nat) (fs : List Nat) (xs : List Int) (p : Option Addr) (c : Nat) (cs : Array Value) (w : World)
    (hl : w.heap[bl]? = some (.cells #[.slice (some ⟨ba, 0, none⟩) fs.length fs.length] 86 (0, 0))) (ha : w.heap[ba]? = some (.cells (fs.map (at0c bc)).toArray 87 (0, 0)))
    (hc : w.heap[bc]? = some (.cells cs 25 (0, 0))) (hx : IntsL w p xs) (hxl : xs.length = fs.length) (hfs : ∀ i, i < fs.length → fs.getD i 0 < cs.size) (hp : ∀ b off, p = some ⟨b, off, none⟩ → b ≠ bc) (h10 : fs.length ≤ 10) :
    Calls Tryd.prog 42 #[.slice p xs.length c, .pointer (some ⟨bl, 0, none⟩)] w fun e w' => e = .returned (.int .i64 0) ∧ w'.heap[bc]? = some (.cells (setF fs xs cs fs.length) 25 (0, 0)) ∧ Mod (· = bc) w w' := by
  have hne1 : bl ≠ bc := fun e => by subst e; rw [hl] at hc; simp at hc
  have hne2 : ba ≠ bc := fun e => by subst e; rw [ha] at hc; simp at hc
  rw [hxl]
  replace hxl := hide hxl
  replace hx := hide hx
  replace hfs := hide hfs
  replace hp := hide hp
  replace hl := hide hl
  replace ha := hide ha
  replace hc := hide hc
  go_enter Tryd.func42, Tryd.ntmps42
  go_wp2_with fail
  go_loopw [8] (fun vi wr => ∃ i : Nat, i ≤ fs.length ∧ vi = .int .i64 i ∧ wr.heap[bc]? = some (.cells (setF fs xs cs i) 25 (0, 0)) ∧ Mod (· = bc) w wr) (fun vi _ => fs.length - (intOf vi).toNat)
  case atStart => exact ⟨0, by omega, rfl, hc.out, Mod.refl _ _⟩
  case round =>
    obtain ⟨i, hi, rfl, hcr, hm⟩ := hrel
    by_cases hlt : i < fs.length
    · obtain ⟨b, off, hpb, _, hcell⟩ := hx.out i (by rw [hxl.out]; exact hlt)
      replace hcell := hm.cellAt (hp.out _ _ hpb) hcell
      have c1 := cell_of_block (hm.heap hl.out hne1) 0 (v := .slice (some ⟨ba, 0, none⟩) fs.length fs.length) rfl
      have c2 := cell_of_block (hm.heap ha.out hne2) i (v := at0c bc (fs.getD i 0)) (by simp [List.getD, hlt])
      have hfl := hfs.out i hlt
      have hcc : ∃ u, wr.cell? ⟨bc, fs.getD i 0, none⟩ = some u := ⟨_, cell_of_block hcr _ (Array.getElem?_eq_getElem (by rw [setF_size]; exact hfl))⟩
      obtain ⟨u, hcu⟩ := hcc
      have hfr := frozen_of_block hcr (fs.getD i 0)
      have hset := hide (heap_setCell_eq (o := fs.getD i 0) hcr (.int .i64 (xs.getD i 0)))
      have hms := hide (hm.set1 (b := bc) (fs.getD i 0) (.int .i64 (xs.getD i 0)))
      have hsn : Hid (setF fs xs cs (i + 1) = (setF fs xs cs i).setIfInBounds (fs.getD i 0) (.int .i64 (xs.getD i 0))) := hide rfl
      replace hcr := hide hcr
      replace hm := hide hm
      subst hpb
      generalize fs.getD i 0 = f at c2 hfl hcu hfr hset hms hsn
      generalize xs.getD i 0 = x at hcell hset hms hsn
      clear hfl
      have hi0 : (0 : Int) ≤ (i : Int) := by omega
      have hi1 : (i : Int) < (fs.length : Int) := by omega
      go_wp2_with fail
      go_roundw
      case rel => exact ⟨i + 1, by omega, by go_num, by rw [hsn.out]; exact hset.out, hms.out⟩
      case measure => simp [intOf]; omega
    · obtain rfl : i = fs.length := by omega
      replace hcr := hide hcr
      replace hm := hide hm
      go_wp2
      go_ret
      exact ⟨rfl, hcr.out, hm.out⟩
end Go.Proofs.YtdcmjjinmnbaoaaDoor
