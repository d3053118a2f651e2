/- conf.Print. -/
import Derived.Test.YtdcmjjinmnbaoaaDoorCfK
import Derived.Test.YtdcmjjinmnbaoaaDoorCfE
namespace Go.Proofs.YtdcmjjinmnbaoaaDoor
open Go.RowKit

/-- The servers' lines. -/
def srvT : List Int → List UInt8
  | [] => []
  | x :: r => lineT [115, 101, 114, 118, 101, 114] [x] ++ srvT r
theorem srvT_snoc (xs : List Int) (x : Int) : srvT (xs ++ [x]) = srvT xs ++ lineT [115, 101, 114, 118, 101, 114] [x] := by
  induction xs with
  | nil => simp [srvT]
  | cons y xs ih => rw [List.cons_append, srvT, srvT, ih]; simp
/-- A config's text. -/
def printT (xs : List Int) (q l m d s : Int) : List UInt8 :=
  srvT xs ++ lineT [113, 117, 111, 114, 117, 109] [q] ++ lineT [112, 111, 108, 108] [l, m] ++ lineT [100, 101, 108, 97, 121] [d] ++ lineT [115, 108, 101, 119] [s]
theorem lineT_len (wd : List UInt8) (xs : List Int) : (lineT wd xs).length ≤ wd.length + 11 * xs.length + 1 := by
  have := numsT_len xs
  simp [lineT]; omega
theorem srvT_len (xs : List Int) : (srvT xs).length ≤ 18 * xs.length := by
  induction xs with
  | nil => simp [srvT]
  | cons x xs ih => have := lineT_len [115, 101, 114, 118, 101, 114] [x]; simp [srvT] at this ⊢; omega

theorem srvErr_pre {xs : List Int} : ∀ {n : Nat}, srvErr xs n = 0 → ∀ k, k < n → 1 ≤ xs.getD k 0 ∧ xs.getD k 0 ≤ 65535 ∧ inI (xs.take k) (xs.getD k 0) = false := by
  intro n
  induction n with
  | zero => intro _ k hk; omega
  | succ n ih =>
    intro h k hk
    by_cases h0 : srvErr xs n = 0
    · by_cases hkn : k < n
      · exact ih h0 k hkn
      · obtain rfl : k = n := by omega
        cases hb : inB3 (xs.getD k 0) 1 65535 with
        | false => rw [srv_low h0 hb] at h; simp at h
        | true =>
          cases hi : inI (xs.take k) (xs.getD k 0) with
          | true => rw [srv_twice h0 hb hi] at h; simp at h
          | false => exact ⟨(inB3_true hb).1, (inB3_true hb).2, rfl⟩
    · rw [srvErr, if_pos h0] at h
      exact absurd h h0
/-- What a checked config is. -/
structure Fine (xs : List Int) (q l m d s : Int) : Prop where
  some_ : 1 ≤ xs.length
  few : xs.length ≤ 16
  srv : srvErr xs xs.length = 0
  num : numErr xs.length q l m d s = 0
theorem check_fine {xs : List Int} {q l m d s : Int} (h : checkR xs q l m d s = 0) : Fine xs q l m d s := by
  unfold checkR at h
  split at h
  · simp at h
  · split at h
    · simp at h
    · split at h
      · rename_i h3; exact absurd h h3
      · rename_i h1 h2 h3
        exact ⟨by omega, by omega, by simpa using h3, h⟩
theorem fine_nums {xs : List Int} {q l m d s : Int} (h : Fine xs q l m d s) : (4 ≤ l ∧ l ≤ 1024) ∧ (l ≤ m ∧ m ≤ 1024) ∧ (1 ≤ q ∧ q ≤ xs.length) ∧ (1 ≤ d ∧ d ≤ 1000 * l - 2000) ∧ (1 ≤ s ∧ s ≤ 500) := by
  have := h.num
  unfold numErr at this
  split at this
  · rename_i hh
    simp only [Bool.and_eq_true] at hh
    obtain ⟨⟨⟨⟨a, b⟩, c⟩, e⟩, f⟩ := hh
    exact ⟨inB3_true a, inB3_true b, inB3_true c, inB3_true e, inB3_true f⟩
  · simp at this

/-- Behind an alloc of the builder, what is kept of it keeps all that was. -/
theorem KeepB.old {w w' : World} {o : Obj} (h : KeepB w.heap.size w.heap.size (w.alloc o) w') : Mod NoB w w' :=
  ⟨h.os, h.tape, h.output, Nat.le_trans ((Mod.refl NoB w).alloc o).size h.size, fun x hx _ => by
    have := h.block x (Nat.lt_of_lt_of_le hx ((Mod.refl NoB w).alloc o).size) (by rintro (e | ⟨e, _⟩) <;> omega)
    rw [this, heap_alloc_old hx]⟩
theorem ints1 (w : World) (a : Int) : IntsK (w.alloc (.cells #[.int .i64 a] 3)) (some ⟨w.heap.size, 0, none⟩) [a] := by
  refine ⟨fun j hj => ?_, fun b off e => ?_⟩
  · obtain rfl : j = 0 := by simp at hj; omega
    exact ⟨_, _, rfl, lt_of_block (heap_alloc_new w _), cell_of_block (heap_alloc_new w _) 0 rfl⟩
  · simp at e; obtain ⟨rfl, rfl⟩ := e; exact ⟨_, _, heap_alloc_new w _⟩
theorem ints2 (w : World) (a b : Int) : IntsK (w.alloc (.cells #[.int .i64 a, .int .i64 b] 3)) (some ⟨w.heap.size, 0, none⟩) [a, b] := by
  refine ⟨fun j hj => ?_, fun b off e => ?_⟩
  · have : j = 0 ∨ j = 1 := by simp at hj; omega
    rcases this with rfl | rfl
    · exact ⟨_, _, rfl, lt_of_block (heap_alloc_new w _), cell_of_block (heap_alloc_new w _) 0 rfl⟩
    · exact ⟨_, _, rfl, lt_of_block (heap_alloc_new w _), cell_of_block (heap_alloc_new w _) 1 rfl⟩
  · simp at e; obtain ⟨rfl, rfl⟩ := e; exact ⟨_, _, heap_alloc_new w _⟩

/-- One line, behind the row of its numbers. -/
theorem pline1 (w1 : World) (hL : LaidN w1) (o : Obj) (l wd : List UInt8) (a : Int) (w : World) (hk : KeepB w1.heap.size w1.heap.size (w1.alloc o) w) (h : BldAt w1.heap.size w1.heap.size l w) (h0 : 0 ≤ a) (h1 : a ≤ 1000000000) (hl : l.length ≤ 1000000) (hwl : wd.length ≤ 100) :
    Calls Tryd.prog 25 #[.string (bs wd), .slice (some ⟨w.heap.size, 0, none⟩) 1 1, .pointer (some ⟨w1.heap.size, 0, none⟩)] (w.alloc (.cells #[.int .i64 a] 3)) fun e w' => e = .returned (.tuple #[]) ∧ BldAt w1.heap.size w1.heap.size (l ++ lineT wd [a]) w' ∧ KeepB w1.heap.size w1.heap.size (w1.alloc o) w' := by
  have hk2 := hk.trans (KeepB.of_mod ((Mod.refl NoB w).alloc (.cells #[.int .i64 a] 3)))
  refine (pline_any w1.heap.size w1.heap.size l wd [a] (some ⟨w.heap.size, 0, none⟩) 1 _ (h.mod ((Mod.refl NoB w).alloc _)) (ints1 w a) (by simp) (by simp; omega) hl hwl (Nat.le_trans hk2.old.size (Nat.le_refl _)) (fun w' hw => hL.mod (hk2.trans hw).old)).mono ?_
  rintro e w' ⟨rfl, h1, h2⟩
  exact ⟨rfl, h1, hk2.trans h2⟩
theorem pline2 (w1 : World) (hL : LaidN w1) (o : Obj) (l wd : List UInt8) (a b : Int) (w : World) (hk : KeepB w1.heap.size w1.heap.size (w1.alloc o) w) (h : BldAt w1.heap.size w1.heap.size l w) (h0 : 0 ≤ a ∧ 0 ≤ b) (h1 : a ≤ 1000000000 ∧ b ≤ 1000000000) (hl : l.length ≤ 1000000) (hwl : wd.length ≤ 100) :
    Calls Tryd.prog 25 #[.string (bs wd), .slice (some ⟨w.heap.size, 0, none⟩) 2 2, .pointer (some ⟨w1.heap.size, 0, none⟩)] (w.alloc (.cells #[.int .i64 a, .int .i64 b] 3)) fun e w' => e = .returned (.tuple #[]) ∧ BldAt w1.heap.size w1.heap.size (l ++ lineT wd [a, b]) w' ∧ KeepB w1.heap.size w1.heap.size (w1.alloc o) w' := by
  have hk2 := hk.trans (KeepB.of_mod ((Mod.refl NoB w).alloc (.cells #[.int .i64 a, .int .i64 b] 3)))
  refine (pline_any w1.heap.size w1.heap.size l wd [a, b] (some ⟨w.heap.size, 0, none⟩) 2 _ (h.mod ((Mod.refl NoB w).alloc _)) (ints2 w a b) (by simp) (by simp; omega) hl hwl (Nat.le_trans hk2.old.size (Nat.le_refl _)) (fun w' hw => hL.mod (hk2.trans hw).old)).mono ?_
  rintro e w' ⟨rfl, h1, h2⟩
  exact ⟨rfl, h1, hk2.trans h2⟩
end Go.Proofs.YtdcmjjinmnbaoaaDoor
