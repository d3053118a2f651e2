/- What a config's text comes to: plain Lean. -/
import Derived.Test.YtdcmjjinmnbaoaaDoorCfN
import Derived.Test.YtdcmjjinmnbaoaaDoorCfL
import Derived.Test.YtdcmjjinmnbaoaaDoorLxT2
namespace Go.Proofs.YtdcmjjinmnbaoaaDoor
open Go.RowKit

/-- The first line with a byte that may not be. -/
def badAt (l : List UInt8) : Option Nat := (List.range (partsN 10 l)).find? fun j => !okLine l j
theorem badAt_some {l : List UInt8} {j : Nat} (h1 : j < partsN 10 l) (h2 : okLine l j = false) (h3 : ∀ i, i < j → okLine l i = true) : badAt l = some j := by
  unfold badAt
  rw [List.find?_eq_some_iff_getElem]
  refine ⟨by simp [h2], j, by simpa using h1, by simp, fun i hi => ?_⟩
  simp [h3 i hi]
theorem badAt_none {l : List UInt8} (h : ∀ i, i < partsN 10 l → okLine l i = true) : badAt l = none := by
  unfold badAt
  rw [List.find?_eq_none]
  intro i hi
  simp [h i (by simpa using hi)]

def seenAll (s : Nat → Bool) : Bool := s 0 && s 1 && s 2 && s 3 && s 4
theorem seenAll_true {s : Nat → Bool} (h : ∀ k, k < 5 → s k = true) : seenAll s = true := by
  simp [seenAll, h]
theorem seenAll_false {s : Nat → Bool} {k : Nat} (hk : k < 5) (h : s k = false) : seenAll s = false := by
  rcases bounds5 k hk with rfl | rfl | rfl | rfl | rfl <;> simp [seenAll, h]

/-- Lines in turn, up to the first error: the line, the error, what has come of it. -/
def linesR : List (Nat × List (List UInt8)) → St → Int × Int × St
  | [], st => (0, 0, st)
  | (n, ws) :: r, st => if (lineR ws st).1 = 0 then linesR r (lineR ws st).2 else ((n : Int), (lineR ws st).1, st)
theorem linesR_ok {n : Nat} {ws : List (List UInt8)} {r : List (Nat × List (List UInt8))} {st : St} (h : (lineR ws st).1 = 0) : linesR ((n, ws) :: r) st = linesR r (lineR ws st).2 := by
  rw [linesR, if_pos h]
theorem linesR_bad {n : Nat} {ws : List (List UInt8)} {r : List (Nat × List (List UInt8))} {st : St} (h : (lineR ws st).1 ≠ 0) : linesR ((n, ws) :: r) st = ((n : Int), (lineR ws st).1, st) := by
  rw [linesR, if_neg h]
theorem linesR_app : ∀ (L M : List (Nat × List (List UInt8))) (st : St), (linesR L st).2.1 = 0 → linesR (L ++ M) st = linesR M (linesR L st).2.2 := by
  intro L
  induction L with
  | nil => intro M st _; rfl
  | cons x L ih =>
    intro M st h
    obtain ⟨n, ws⟩ := x
    by_cases h0 : (lineR ws st).1 = 0
    · rw [linesR_ok h0] at h
      rw [List.cons_append, linesR_ok h0, linesR_ok h0]
      exact ih M _ h
    · rw [linesR_bad h0] at h
      exact absurd h h0

def cfg0 : Cfg := ⟨[], 0, 0, 0, 0, 0⟩
def st0 : St := (cfg0, fun _ => false)
def checkC (a : Cfg) : Int := checkR a.srv a.q a.l a.m a.d a.s
def endR (x : Int × Int × St) : Cfg × Int × Int :=
  if x.2.1 ≠ 0 then (cfg0, x.1, x.2.1) else if seenAll x.2.2.2 = false then (cfg0, 0, 13) else if checkC x.2.2.1 ≠ 0 then (cfg0, 0, checkC x.2.2.1) else (x.2.2.1, 0, 0)
/-- What a text comes to: the config, the line, the error. -/
def parseR (l : List UInt8) : Cfg × Int × Int :=
  if 65536 < l.length then (cfg0, 0, 7) else
  match badAt l with
  | some j => (cfg0, ((j + 1 : Nat) : Int), 6)
  | none => endR (linesR (linesTo l (partsN 10 l)) st0)
theorem parseR_long {l : List UInt8} (h : 65536 < l.length) : parseR l = (cfg0, 0, 7) := if_pos h
theorem parseR_bad {l : List UInt8} (h : ¬ 65536 < l.length) {j : Nat} (hb : badAt l = some j) : parseR l = (cfg0, ((j + 1 : Nat) : Int), 6) := by
  unfold parseR
  rw [if_neg h, hb]
theorem parseR_lines {l : List UInt8} (h : ¬ 65536 < l.length) (hb : badAt l = none) : parseR l = endR (linesR (linesTo l (partsN 10 l)) st0) := by
  unfold parseR
  rw [if_neg h, hb]
theorem endR_err {x : Int × Int × St} (h : x.2.1 ≠ 0) : endR x = (cfg0, x.1, x.2.1) := if_pos h
theorem endR_lack {x : Int × Int × St} (h : x.2.1 = 0) (h2 : seenAll x.2.2.2 = false) : endR x = (cfg0, 0, 13) := by
  unfold endR
  rw [if_neg (by simp [h]), if_pos h2]
theorem endR_check {x : Int × Int × St} (h : x.2.1 = 0) (h2 : seenAll x.2.2.2 = true) (h3 : checkC x.2.2.1 ≠ 0) : endR x = (cfg0, 0, checkC x.2.2.1) := by
  unfold endR
  rw [if_neg (by simp [h]), if_neg (by simp [h2]), if_pos h3]
theorem endR_ok {x : Int × Int × St} (h : x.2.1 = 0) (h2 : seenAll x.2.2.2 = true) (h3 : checkC x.2.2.1 = 0) : endR x = (x.2.2.1, 0, 0) := by
  unfold endR
  rw [if_neg (by simp [h]), if_neg (by simp [h2]), if_neg (by simp [h3])]

/-- What has no line of a newline of its own: a config's own lines. -/
def srvW : List UInt8 := [115, 101, 114, 118, 101, 114]
def lineB (wd : List UInt8) (xs : List Int) : List UInt8 := wd ++ numsT xs
def bodyC (a : Cfg) : List (List UInt8) :=
  a.srv.map (fun x => lineB (keyW 0) [x]) ++ [lineB (keyW 1) [a.q], lineB (keyW 2) [a.l, a.m], lineB (keyW 3) [a.d], lineB (keyW 4) [a.s]]
/-- Lines, each with its end. -/
def ends : List (List UInt8) → List UInt8
  | [] => []
  | s :: r => s ++ 10 :: ends r
theorem ends_app (L M : List (List UInt8)) : ends (L ++ M) = ends L ++ ends M := by
  induction L with
  | nil => rfl
  | cons s L ih => rw [List.cons_append, ends, ends, ih]; simp
theorem ends_nl (L : List (List UInt8)) (x : List UInt8) : ends L ++ x = nl (L ++ [x]) := by
  induction L with
  | nil => simp [ends, nl]
  | cons s L ih => rw [List.cons_append, nl_cons (by simp), ends, ← ih]; simp
theorem printT_ends (a : Cfg) : printT a.srv a.q a.l a.m a.d a.s = ends (bodyC a) := by
  have h : ∀ xs : List Int, srvT xs = ends (xs.map (fun x => lineB (keyW 0) [x])) := by
    intro xs
    induction xs with
    | nil => rfl
    | cons x xs ih => rw [srvT, ih, List.map_cons, ends]; simp [lineT, lineB, keyW]
  unfold printT bodyC
  rw [ends_app, h]
  simp [lineT, lineB, keyW, ends]
end Go.Proofs.YtdcmjjinmnbaoaaDoor
