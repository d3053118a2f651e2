/- sane.Look (contract). A list of ints in memory; slices.Index, Contains, Equal at []int. conf.Check. conf.Same, and the document's. What a word of a config does with its numbers. -/
import Derived.Test.YtjlilmonpklghaaGreatDoorPUal
import Derived.Test.YtjlilmonpklghaaGreatDoorPUad
import Derived.Test.YtjlilmonpklghaaGreatDoorPUaa
import Derived.Test.YtjlilmonpklghaaGreatDoorPUaf
namespace Go.Proofs.YtjlilmonpklghaaGreatDoor
open Go.RowKit

theorem first_test (p : PktS) (c : Nat) : (if firstB (testB p c) = 7 then (0 : Int) else 5 + (firstB (testB p c) : Int)) = testR p c := by
  unfold testR firstB testB
  by_cases h0 : p.version ≠ 4
  · simp [h0]
  by_cases h1 : p.mode ≠ 4
  · simp [h0, h1]
  by_cases h2 : c = 0 ∨ p.orig ≠ c
  · simp [h0, h1, h2]
  by_cases h3 : p.stratum = 0
  · simp [h0, h1, h2, h3]
  by_cases h4 : p.leap = 3
  · simp [h0, h1, h2, h3, h4]
  by_cases h5 : 15 < p.stratum
  · simp [h0, h1, h2, h3, h4, h5]
  by_cases h6 : p.recv = 0 ∨ p.xmit = 0
  · simp [h0, h1, h2, h3, h4, h5, h6]
  · simp [h0, h1, h2, h3, h4, h5, h6]
theorem first_full (p : PktS) (c : Nat) : (firstB (testB p c) = 7 ∨ firstB (testB p c) = 3) ↔ (testR p c = 0 ∨ testR p c = 8) := by
  rw [← first_test]
  split
  · rename_i h; simp [h]
  · rename_i h
    constructor
    · rintro (h2 | h2)
      · exact absurd h2 h
      · right; rw [h2]; rfl
    · rintro (h2 | h2)
      · omega
      · right; omega
theorem lookOut_eq (p : PktS) (c : Nat) : lookOut (testB p c) p.val = .tuple #[(if testR p c = 0 ∨ testR p c = 8 then p else pkt0).val, .int .i64 (testR p c)] := by
  unfold lookOut
  rw [first_test]
  by_cases h : testR p c = 0 ∨ testR p c = 8
  · rw [if_pos ((first_full p c).2 h), if_pos h]
  · rw [if_neg (fun x => h ((first_full p c).1 x)), if_neg h]
    rfl
theorem look_short (cap : Nat) (l : List Nat) (h48 : l.length < 48) (p : Option Addr) (c : Int) (w : World) :
    Calls Tryz.prog 23 #[.slice p l.length cap, .int .u64 c] w fun e w' => e = .returned (.tuple #[pkt0.val, .int .i64 1]) ∧ Mod NoB w w' := by
  have hg := get_short cap l h48 p
  have ez : pkt0.val = .agg #[.int .u8 0, .int .u8 0, .int .u8 0, .int .u8 0, .int .i8 0, .int .i8 0, .int .u32 0, .int .u32 0, .int .u32 0, .int .u64 0, .int .u64 0, .int .u64 0, .int .u64 0] := rfl
  rw [ez] at hg ⊢
  replace hg := hide hg
  go_enter Tryz.func23, Tryz.ntmps23
  go_wp2_with fail
  refine (hg.out _).mono ?_
  rintro e w1 ⟨rfl, hm⟩
  have hm2 : Mod NoB w w1 := ((Mod.refl NoB w).alloc (.cells #[.int .u8 0, .int .u8 0, .int .u8 0, .int .u8 0, .int .i8 0, .int .i8 0, .int .u32 0, .int .u32 0, .int .u32 0, .int .u64 0, .int .u64 0, .int .u64 0, .int .u64 0] 51)).trans hm
  have hb := hm.heap (heap_alloc_new w (.cells #[.int .u8 0, .int .u8 0, .int .u8 0, .int .u8 0, .int .i8 0, .int .i8 0, .int .u32 0, .int .u32 0, .int .u32 0, .int .u64 0, .int .u64 0, .int .u64 0, .int .u64 0] 51)) id
  have hlt := lt_of_block hb
  have hne : ¬ w.heap.size = w1.heap.size := by omega
  have hset := hide (set13_heap (w := w1) hb (.int .u8 0) (.int .u8 0) (.int .u8 0) (.int .u8 0) (.int .i8 0) (.int .i8 0) (.int .u32 0) (.int .u32 0) (.int .u32 0) (.int .u64 0) (.int .u64 0) (.int .u64 0) (.int .u64 0))
  have hmf := hide (set13_mod (w := w1) (g := w.heap.size) hm2 (Nat.le_refl _) (.int .u8 0) (.int .u8 0) (.int .u8 0) (.int .u8 0) (.int .i8 0) (.int .i8 0) (.int .u32 0) (.int .u32 0) (.int .u32 0) (.int .u64 0) (.int .u64 0) (.int .u64 0) (.int .u64 0))
  obtain ⟨wf, hwf⟩ : ∃ wf, set13 w1 w.heap.size (.int .u8 0) (.int .u8 0) (.int .u8 0) (.int .u8 0) (.int .i8 0) (.int .i8 0) (.int .u32 0) (.int .u32 0) (.int .u32 0) (.int .u64 0) (.int .u64 0) (.int .u64 0) (.int .u64 0) = wf := ⟨_, rfl⟩
  rw [hwf] at hset hmf
  replace hwf := hide hwf
  clear hm hm2
  have r0 := cell_of_block hb 0 rfl
  have z0 := frozen_of_block hb 0
  have r1 := cell_of_block hb 1 rfl
  have z1 := frozen_of_block hb 1
  have r2 := cell_of_block hb 2 rfl
  have z2 := frozen_of_block hb 2
  have r3 := cell_of_block hb 3 rfl
  have z3 := frozen_of_block hb 3
  have r4 := cell_of_block hb 4 rfl
  have z4 := frozen_of_block hb 4
  have r5 := cell_of_block hb 5 rfl
  have z5 := frozen_of_block hb 5
  have r6 := cell_of_block hb 6 rfl
  have z6 := frozen_of_block hb 6
  have r7 := cell_of_block hb 7 rfl
  have z7 := frozen_of_block hb 7
  have r8 := cell_of_block hb 8 rfl
  have z8 := frozen_of_block hb 8
  have r9 := cell_of_block hb 9 rfl
  have z9 := frozen_of_block hb 9
  have r10 := cell_of_block hb 10 rfl
  have z10 := frozen_of_block hb 10
  have r11 := cell_of_block hb 11 rfl
  have z11 := frozen_of_block hb 11
  have r12 := cell_of_block hb 12 rfl
  have z12 := frozen_of_block hb 12
  replace hb := hide hb
  go_wp2_with fail
  have hwf := hwf.out
  unfold set13 at hwf
  rw [hwf]
  have hset2 := (heap_alloc_old (lt_of_block hset.out) (.cells #[.int .u8 0, .int .u8 0, .int .u8 0, .int .u8 0, .int .i8 0, .int .i8 0, .int .u32 0, .int .u32 0, .int .u32 0, .int .u64 0, .int .u64 0, .int .u64 0, .int .u64 0] 51)).trans hset.out
  have d0 := cell_of_block hset2 0 (v := .int .u8 0) rfl
  have d1 := cell_of_block hset2 1 (v := .int .u8 0) rfl
  have d2 := cell_of_block hset2 2 (v := .int .u8 0) rfl
  have d3 := cell_of_block hset2 3 (v := .int .u8 0) rfl
  have d4 := cell_of_block hset2 4 (v := .int .i8 0) rfl
  have d5 := cell_of_block hset2 5 (v := .int .i8 0) rfl
  have d6 := cell_of_block hset2 6 (v := .int .u32 0) rfl
  have d7 := cell_of_block hset2 7 (v := .int .u32 0) rfl
  have d8 := cell_of_block hset2 8 (v := .int .u32 0) rfl
  have d9 := cell_of_block hset2 9 (v := .int .u64 0) rfl
  have d10 := cell_of_block hset2 10 (v := .int .u64 0) rfl
  have d11 := cell_of_block hset2 11 (v := .int .u64 0) rfl
  have d12 := cell_of_block hset2 12 (v := .int .u64 0) rfl
  exact bodyPost_ret (v := .tuple #[.agg #[.int .u8 0, .int .u8 0, .int .u8 0, .int .u8 0, .int .i8 0, .int .i8 0, .int .u32 0, .int .u32 0, .int .u32 0, .int .u64 0, .int .u64 0, .int .u64 0, .int .u64 0], .int .i64 1]) (by simp [results, Tryz.results23, go_sem, d0, d1, d2, d3, d4, d5, d6, d7, d8, d9, d10, d11, d12]) rfl ⟨rfl, hmf.out.alloc _⟩
theorem look_any (b off cap : Nat) (l : List Nat) (c : Nat) (h48 : 48 ≤ l.length) (hl : l.length ≤ cap) (hl2 : l.length ≤ 9223372036854775807) (hc : cap ≤ 9223372036854775807) (w : World) (h : BytesAt w b off l) :
    Calls Tryz.prog 23 #[.slice (some ⟨b, off, none⟩) l.length cap, .int .u64 c] w fun e w' => e = .returned (.tuple #[(lookP l c).val, .int .i64 (lookR l c)]) ∧ Mod NoB w w' := by
  have hcore := look_core (pktOf l).leap (pktOf l).version (pktOf l).mode (pktOf l).stratum (pktOf l).poll (pktOf l).prec (pktOf l).delay (pktOf l).disp (pktOf l).refs (pktOf l).ref (pktOf l).orig (pktOf l).recv (pktOf l).xmit
    (testB (pktOf l) c) c (.slice (some ⟨b, off, none⟩) l.length cap) (test0_any _ _) (test1_any _ _) (test2_any _ _) (test3_any _ _) (test4_any _ _) (test5_any _ _) (test6_any _ _) w
    (fun w' hm => get_any b off cap l h48 hl hl2 hc w' (h.mod hm id))
  have e1 : lookP l c = if testR (pktOf l) c = 0 ∨ testR (pktOf l) c = 8 then pktOf l else pkt0 := by unfold lookP; rw [if_neg (by omega)]
  have e2 : lookR l c = testR (pktOf l) c := by unfold lookR; rw [if_neg (by omega)]
  rw [e1, e2, ← lookOut_eq]
  exact hcore
end Go.Proofs.YtjlilmonpklghaaGreatDoor

namespace Go.Proofs.YtjlilmonpklghaaGreatDoor
open Go.RowKit

/-- The ints xs lie at p. -/
def IntsL (w : World) (p : Option Addr) (xs : List Int) : Prop :=
  ∀ j, j < xs.length → ∃ b off, p = some ⟨b, off, none⟩ ∧ b < w.heap.size ∧ w.cell? ⟨b, off + j, none⟩ = some (.int .i64 (xs.getD j 0))
theorem IntsL.mod {S : Nat → Prop} {w w' : World} {p : Option Addr} {xs : List Int} (h : IntsL w p xs) (hm : Mod S w w') (hS : ∀ b off, p = some ⟨b, off, none⟩ → ¬ S b) : IntsL w' p xs := fun j hj => by
  obtain ⟨b, off, h1, h2, h3⟩ := h j hj
  exact ⟨b, off, h1, Nat.lt_of_lt_of_le h2 hm.size, hm.cellAt (hS _ _ h1) h3⟩
theorem IntsL.mod0 {w w' : World} {p : Option Addr} {xs : List Int} (h : IntsL w p xs) (hm : Mod NoB w w') : IntsL w' p xs := h.mod hm (fun _ _ _ => id)
theorem IntsL.take {w : World} {p : Option Addr} {xs : List Int} (h : IntsL w p xs) (n : Nat) : IntsL w p (xs.take n) := fun j hj => by
  have h1 : j < xs.length := by simp at hj; omega
  have h2 : j < n := by simp at hj; omega
  obtain ⟨b, off, a1, a2, a3⟩ := h j h1
  refine ⟨b, off, a1, a2, ?_⟩
  rw [a3]
  simp [List.getD, List.getElem?_take_of_lt h2]

/-- Where v stands first. -/
def indexI : List Int → Int → Nat → Int
  | [], _, _ => -1
  | x :: r, v, i => if v = x then i else indexI r v (i + 1)
def inI (xs : List Int) (v : Int) : Bool := xs.contains v
theorem index_skip (xs : List Int) (v : Int) : ∀ (k i : Nat), v ∉ xs.take k → indexI xs v i = indexI (xs.drop k) v (i + min k xs.length) := by
  induction xs with
  | nil => intro k i _; simp
  | cons x xs ih =>
    intro k i hk
    cases k with
    | zero => simp
    | succ k =>
      simp only [List.take_succ_cons, List.mem_cons, not_or] at hk
      rw [indexI, if_neg hk.1, ih k (i + 1) hk.2, List.drop_succ_cons]
      congr 1
      simp only [List.length_cons]
      omega
theorem index_at {xs : List Int} {v : Int} {k : Nat} (hk : k < xs.length) (hno : v ∉ xs.take k) (hv : xs.getD k 0 = v) : indexI xs v 0 = k := by
  rw [index_skip xs v k 0 hno]
  have : xs.drop k = v :: xs.drop (k + 1) := by
    rw [← List.getElem_cons_drop hk]
    congr 1
    rw [← hv]
    simp [List.getD, hk]
  rw [this, indexI, if_pos rfl]
  congr 1
  omega
theorem indexI_none {xs : List Int} {v : Int} (h : v ∉ xs) : indexI xs v 0 = -1 := by
  rw [index_skip xs v xs.length 0 (by rw [List.take_length]; exact h), List.drop_length]
  rfl
theorem take_mem {xs : List Int} {v : Int} {k : Nat} (hk : k < xs.length) (h : v ∉ xs.take k) (hv : ¬ v = xs.getD k 0) : v ∉ xs.take (k + 1) := by
  rw [List.take_add_one]
  have : xs[k]? = some (xs.getD k 0) := by simp [List.getD, hk]
  rw [this]
  simp only [Option.toList_some, List.mem_append, List.mem_singleton, not_or]
  exact ⟨h, hv⟩
theorem index_ge (xs : List Int) (v : Int) : decide (0 ≤ indexI xs v 0) = inI xs v := by
  have key : ∀ (xs : List Int) (i : Nat), decide (0 ≤ indexI xs v i) = xs.contains v := by
    intro xs
    induction xs with
    | nil => intro i; rfl
    | cons x xs ih =>
      intro i
      rw [indexI, List.contains_cons]
      by_cases h : v = x
      · rw [if_pos h]; simp [h]
      · rw [if_neg h, ih]; simp [h]
  exact key xs 0

set_option maxHeartbeats 2000000 in
theorem sindex_any (p : Option Addr) (xs : List Int) (c : Nat) (v : Int) (w : World) (h : IntsL w p xs) (hl : xs.length ≤ 1000000) :
    Calls Tryz.prog 88 #[.slice p xs.length c, .int .i64 v] w fun e w' => e = .returned (.int .i64 (indexI xs v 0)) ∧ Mod NoB w w' := by
  go_enter Tryz.func88, Tryz.ntmps88
  go_wp2_with fail
  go_loop [8] (fun vi => ∃ i : Nat, i ≤ xs.length ∧ vi = .int .i64 i ∧ v ∉ xs.take i) (fun vi => xs.length - (intOf vi).toNat)
  case atStart => exact ⟨0, by omega, rfl, by simp⟩
  case round =>
    obtain ⟨i, hi, rfl, hno⟩ := hrel
    by_cases hlt : i < xs.length
    · obtain ⟨b, off, rfl, hb, hc⟩ := h i hlt
      have hat := hide (fun hv => index_at (v := v) hlt hno hv)
      have htk := hide (fun hv => take_mem (v := v) hlt hno hv)
      replace hno := hide hno
      replace h := hide h
      generalize xs.getD i 0 = x at hc hat htk
      by_cases hv : v = x
      · subst hv
        have hvv : (v == v) = true := by simp
        go_wp2
        go_ret
        exact ⟨int_ret (hat.out (by first | rfl | trivial)).symm, Mod.refl _ _⟩
      · have hvv : (v == x) = false := by simpa using hv
        go_wp2
        go_round
        case rel => exact ⟨i + 1, by omega, by go_num, htk.out hv⟩
        case measure => simp [intOf]; omega
    · obtain rfl : i = xs.length := by omega
      rw [List.take_length] at hno
      have hn := hide (indexI_none hno)
      clear hno h
      go_wp2
      go_ret
      exact ⟨int_ret hn.out.symm, Mod.refl _ _⟩

theorem contains_any (p : Option Addr) (xs : List Int) (c : Nat) (v : Int) (w : World) (h : IntsL w p xs) (hl : xs.length ≤ 1000000) :
    Calls Tryz.prog 165 #[.slice p xs.length c, .int .i64 v] w fun e w' => e = .returned (.bool (inI xs v)) ∧ Mod NoB w w' := by
  have hi := hide (sindex_any p xs c v w h hl)
  have hg := hide (index_ge xs v)
  clear h
  go_enter Tryz.func165, Tryz.ntmps165
  go_wp2_with fail
  refine hi.out.mono ?_
  rintro e w1 ⟨rfl, hm⟩
  replace hm := hide hm
  generalize indexI xs v 0 = r at hg
  go_wp2
  go_ret
  exact ⟨bool_ret hg.out, hm.out⟩

/-- Is a number between two? -/
def inB3 (n lo hi : Int) : Bool := decide (lo ≤ n) && decide (n ≤ hi)
theorem within_any (n lo hi : Int) (w : World) : Calls Tryz.prog 167 #[.int .i64 n, .int .i64 lo, .int .i64 hi] w fun e w' => e = .returned (.bool (inB3 n lo hi)) ∧ w' = w := by
  by_cases h1 : lo ≤ n
  · by_cases h2 : n ≤ hi
    · have hr : inB3 n lo hi = true := by simp [inB3, h1, h2]
      rw [hr]
      clear hr
      go_enter Tryz.func167, Tryz.ntmps167
      go_wp2
      go_ret
      exact ⟨bool_ret (by simp), rfl⟩
    · have hr : inB3 n lo hi = false := by simp [inB3, h2]
      rw [hr]
      clear hr
      go_enter Tryz.func167, Tryz.ntmps167
      go_wp2
      go_ret
      exact ⟨bool_ret (by simp), rfl⟩
  · have hr : inB3 n lo hi = false := by simp [inB3, h1]
    rw [hr]
    clear hr
    go_enter Tryz.func167, Tryz.ntmps167
    go_wp2
    go_ret
    exact ⟨bool_ret (by simp), rfl⟩
end Go.Proofs.YtjlilmonpklghaaGreatDoor

namespace Go.Proofs.YtjlilmonpklghaaGreatDoor
open Go.RowKit

/-- What is wrong with the first n servers. -/
def srvErr (xs : List Int) : Nat → Int
  | 0 => 0
  | n + 1 => if srvErr xs n ≠ 0 then srvErr xs n else if inB3 (xs.getD n 0) 1 65535 = false then 3 else if inI (xs.take n) (xs.getD n 0) = true then 12 else 0
/-- What is wrong with the numbers. -/
def numErr (n q l m d s : Int) : Int := if (inB3 l 4 1024 && inB3 m l 1024 && inB3 q 1 n && inB3 d 1 (1000 * l - 2000) && inB3 s 1 500) = true then 0 else 3
/-- What is wrong with a config. -/
def checkR (xs : List Int) (q l m d s : Int) : Int :=
  if xs.length = 0 then 13 else if 16 < xs.length then 11 else if srvErr xs xs.length ≠ 0 then srvErr xs xs.length else numErr xs.length q l m d s

theorem srv_stop {xs : List Int} {k : Nat} (h : srvErr xs k ≠ 0) : ∀ n, srvErr xs (k + n) = srvErr xs k := by
  intro n
  induction n with
  | zero => rfl
  | succ n ih =>
    show (if srvErr xs (k + n) ≠ 0 then srvErr xs (k + n) else _) = _
    rw [ih, if_pos h]
theorem srv_at {xs : List Int} {k : Nat} {e : Int} (hk : k < xs.length) (h : srvErr xs (k + 1) = e) (he : e ≠ 0) : srvErr xs xs.length = e := by
  obtain ⟨n, hn⟩ : ∃ n, xs.length = k + 1 + n := ⟨xs.length - (k + 1), by omega⟩
  rw [hn, srv_stop (by rw [h]; exact he), h]
theorem srv_low {xs : List Int} {k : Nat} (h0 : srvErr xs k = 0) (h : inB3 (xs.getD k 0) 1 65535 = false) : srvErr xs (k + 1) = 3 := by
  rw [srvErr, if_neg (by rw [h0]; simp), if_pos h]
theorem srv_twice {xs : List Int} {k : Nat} (h0 : srvErr xs k = 0) (h : inB3 (xs.getD k 0) 1 65535 = true) (h2 : inI (xs.take k) (xs.getD k 0) = true) : srvErr xs (k + 1) = 12 := by
  rw [srvErr, if_neg (by rw [h0]; simp), if_neg (by rw [h]; simp), if_pos h2]
theorem srv_fine {xs : List Int} {k : Nat} (h0 : srvErr xs k = 0) (h : inB3 (xs.getD k 0) 1 65535 = true) (h2 : inI (xs.take k) (xs.getD k 0) = false) : srvErr xs (k + 1) = 0 := by
  rw [srvErr, if_neg (by rw [h0]; simp), if_neg (by rw [h]; simp), if_neg (by rw [h2]; simp)]
theorem inB3_true {n lo hi : Int} (h : inB3 n lo hi = true) : lo ≤ n ∧ n ≤ hi := by
  simpa [inB3] using h
theorem check_srv {xs : List Int} {q l m d s e : Int} (h0 : xs.length ≠ 0) (h16 : ¬ 16 < xs.length) (h : srvErr xs xs.length = e) (he : e ≠ 0) : checkR xs q l m d s = e := by
  rw [checkR, if_neg h0, if_neg h16, if_pos (by rw [h]; exact he), h]
theorem check_num {xs : List Int} {q l m d s : Int} (h0 : xs.length ≠ 0) (h16 : ¬ 16 < xs.length) (h : srvErr xs xs.length = 0) : checkR xs q l m d s = numErr xs.length q l m d s := by
  rw [checkR, if_neg h0, if_neg h16, if_neg (by rw [h]; simp)]

/-- A config by value. -/
abbrev cfgV (p : Option Addr) (n c : Nat) (q l m d s : Int) : Value := .agg #[.slice p n c, .int .i64 q, .int .i64 l, .int .i64 m, .int .i64 d, .int .i64 s]

set_option maxRecDepth 100000 in
set_option maxHeartbeats 8000000 in
theorem check_any (p : Option Addr) (xs : List Int) (c : Nat) (q l m d s : Int) (w : World) (h : IntsL w p xs) (hc : xs.length ≤ c) (hl : xs.length ≤ 1000000) :
    Calls Tryz.prog 112 #[cfgV p xs.length c q l m d s] w fun e w' => e = .returned (.int .i64 (checkR xs q l m d s)) ∧ Mod NoB w w' := by
  obtain ⟨r, hr⟩ : ∃ r, checkR xs q l m d s = r := ⟨_, rfl⟩
  rw [hr]
  replace hr := hide hr
  replace h := hide h
  by_cases h0 : xs.length = 0
  · have h13 : Hid (r = 13) := hide (by rw [← hr.out, checkR, if_pos h0])
    go_enter Tryz.func112, Tryz.ntmps112
    go_wp2
    go_ret
    exact ⟨int_ret h13.out.symm, (Mod.refl _ _).alloc _⟩
  · by_cases h16 : 16 < xs.length
    · have h11 : Hid (r = 11) := hide (by rw [← hr.out, checkR, if_neg h0, if_pos h16])
      have hz : ((xs.length : Int) == 0) = false := beq_eq_false_iff_ne.mpr (by omega)
      go_enter Tryz.func112, Tryz.ntmps112
      go_wp2
      go_ret
      exact ⟨int_ret h11.out.symm, (Mod.refl _ _).alloc _⟩
    · have hz : ((xs.length : Int) == 0) = false := beq_eq_false_iff_ne.mpr (by omega)
      have hg : decide ((16 : Int) < (xs.length : Int)) = false := by simp; omega
      have hs3 := hide (fun (e : Int) (a : srvErr xs xs.length = e) (b : e ≠ 0) => hr.out.symm.trans (check_srv h0 h16 a b))
      have hnum := hide (fun (a : srvErr xs xs.length = 0) => hr.out.symm.trans (check_num (q := q) (l := l) (m := m) (d := d) (s := s) h0 h16 a))
      have hB := heap_alloc_new w (.cells #[.slice p xs.length c, .int .i64 q, .int .i64 l, .int .i64 m, .int .i64 d, .int .i64 s] 59)
      replace hB := hide hB
      go_enter Tryz.func112, Tryz.ntmps112
      go_wp2_with fail
      obtain ⟨W1, hW1⟩ : ∃ W1, w.alloc (.cells #[.slice p xs.length c, .int .i64 q, .int .i64 l, .int .i64 m, .int .i64 d, .int .i64 s] 59) = W1 := ⟨_, rfl⟩
      rw [hW1] at hB ⊢
      have hm1 : Hid (Mod NoB w W1) := hide (by rw [← hW1]; exact (Mod.refl _ _).alloc _)
      clear hW1
      go_loopw [18] (fun vi wr => ∃ i : Nat, i ≤ xs.length ∧ vi = .int .i64 i ∧ srvErr xs i = 0 ∧ Mod NoB W1 wr) (fun vi _ => xs.length - (intOf vi).toNat)
      case atStart => exact ⟨0, by omega, rfl, rfl, Mod.refl _ _⟩
      case round =>
        obtain ⟨i, hi, rfl, hsi, hm⟩ := hrel
        have hBr := hm.heap hB.out id
        have b0 := cell_of_block hBr 0 (v := .slice p xs.length c) rfl
        by_cases hlt : i < xs.length
        · obtain ⟨b, off, hp, hb, hcell⟩ := h.out i hlt
          replace hcell := (hm1.out.trans hm).cellAt id hcell
          have hlow := hide (fun h => hs3.out 3 (srv_at hlt (srv_low hsi h) (by decide)) (by decide))
          have htw := hide (fun h h2 => hs3.out 12 (srv_at hlt (srv_twice hsi h h2) (by decide)) (by decide))
          have hfi := hide (fun h h2 => srv_fine (xs := xs) (k := i) hsi h h2)
          have htl : (xs.take i).length = i := by simp; omega
          have hct := fun w' v (h' : Mod NoB wr w') => contains_any p (xs.take i) c v w' ((h.out.mod0 ((hm1.out.trans hm).trans h')).take i) (by omega)
          rw [htl] at hct
          replace hct := hide hct
          subst hp
          replace hm := hide hm
          replace hsi := hide hsi
          replace htl := hide htl
          generalize xs.getD i 0 = x at hcell hlow htw hfi
          have hic : (i : Int) ≤ (c : Int) := by omega
          go_wp2_with fail
          refine (within_any x 1 65535 _).mono ?_
          rintro e w' ⟨rfl, rfl⟩
          cases hin : inB3 x 1 65535 with
          | false =>
            have h3 := hide (hlow.out hin)
            clear hlow htw hfi hct hin
            go_wp2
            go_ret
            exact ⟨int_ret h3.out.symm, hm1.out.trans hm.out⟩
          | true =>
            go_wp2_with fail
            refine (hct.out _ x (Mod.refl _ _)).mono ?_
            rintro e w2 ⟨rfl, hm2⟩
            replace hm := hide (hm.out.trans hm2)
            clear hm2
            cases hin2 : inI (xs.take i) x with
            | true =>
              have h12 := hide (htw.out hin hin2)
              clear hlow htw hfi hct hin hin2
              go_wp2
              go_ret
              exact ⟨int_ret h12.out.symm, hm1.out.trans hm.out⟩
            | false =>
              have hsn := hide (hfi.out hin hin2)
              clear hlow htw hfi hct hin hin2
              go_wp2_with fail
              go_roundw
              case rel => exact ⟨i + 1, by omega, by go_num, hsn.out, hm.out⟩
              case measure => simp [intOf]; omega
        · obtain rfl : i = xs.length := by omega
          have hrn : r = numErr xs.length q l m d s := hnum.out hsi
          unfold numErr at hrn
          replace hsi := hide hsi
          have b1 := cell_of_block hBr 1 (v := .int .i64 q) rfl
          have b2 := cell_of_block hBr 2 (v := .int .i64 l) rfl
          have b3 := cell_of_block hBr 3 (v := .int .i64 m) rfl
          have b4 := cell_of_block hBr 4 (v := .int .i64 d) rfl
          have b5 := cell_of_block hBr 5 (v := .int .i64 s) rfl
          replace hBr := hide hBr
          replace hm := hide hm
          go_wp2_with fail
          refine (within_any l 4 1024 _).mono ?_
          rintro e w' ⟨rfl, rfl⟩
          cases e0 : inB3 l 4 1024 with
          | false =>
            have h3 : Hid (r = 3) := hide (by rw [hrn, e0]; simp)
            clear hrn e0
            go_wp2
            go_ret
            exact ⟨int_ret h3.out.symm, hm1.out.trans hm.out⟩
          | true =>
            have hl2 := inB3_true e0
            obtain ⟨hl4, hl1024⟩ := hl2
            skip
            go_wp2_with fail
            refine (within_any m l 1024 _).mono ?_
            rintro e w' ⟨rfl, rfl⟩
            cases e1 : inB3 m l 1024 with
            | false =>
              have h3 : Hid (r = 3) := hide (by rw [hrn, e1]; simp)
              clear hrn e0 e1
              go_wp2
              go_ret
              exact ⟨int_ret h3.out.symm, hm1.out.trans hm.out⟩
            | true =>
              skip
              go_wp2_with fail
              refine (within_any q 1 xs.length _).mono ?_
              rintro e w' ⟨rfl, rfl⟩
              cases e2 : inB3 q 1 xs.length with
              | false =>
                have h3 : Hid (r = 3) := hide (by rw [hrn, e2]; simp)
                clear hrn e0 e1 e2
                go_wp2
                go_ret
                exact ⟨int_ret h3.out.symm, hm1.out.trans hm.out⟩
              | true =>
                skip
                go_wp2_with fail
                refine (within_any d 1 (1000 * l - 2000) _).mono ?_
                rintro e w' ⟨rfl, rfl⟩
                cases e3 : inB3 d 1 (1000 * l - 2000) with
                | false =>
                  have h3 : Hid (r = 3) := hide (by rw [hrn, e3]; simp)
                  clear hrn e0 e1 e2 e3
                  go_wp2
                  go_ret
                  exact ⟨int_ret h3.out.symm, hm1.out.trans hm.out⟩
                | true =>
                  skip
                  go_wp2_with fail
                  refine (within_any s 1 500 _).mono ?_
                  rintro e w' ⟨rfl, rfl⟩
                  cases e4 : inB3 s 1 500 with
                  | false =>
                    have h3 : Hid (r = 3) := hide (by rw [hrn, e4]; simp)
                    clear hrn e0 e1 e2 e3 e4
                    go_wp2
                    go_ret
                    exact ⟨int_ret h3.out.symm, hm1.out.trans hm.out⟩
                  | true =>
                    skip
                    have h3 : Hid (r = 0) := hide (by rw [hrn, e0, e1, e2, e3, e4]; simp)
                    clear hrn e0 e1 e2 e3 e4
                    go_wp2
                    go_ret
                    exact ⟨int_ret h3.out.symm, hm1.out.trans hm.out⟩
end Go.Proofs.YtjlilmonpklghaaGreatDoor

namespace Go.Proofs.YtjlilmonpklghaaGreatDoor
open Go.RowKit

/-- A config. -/
structure Cfg where
  srv : List Int
  q : Int
  l : Int
  m : Int
  d : Int
  s : Int
/-- A config by value, its servers at p. -/
abbrev Cfg.val (a : Cfg) (p : Option Addr) (c : Nat) : Value := cfgV p a.srv.length c a.q a.l a.m a.d a.s

end Go.Proofs.YtjlilmonpklghaaGreatDoor

namespace Go.Proofs.YtjlilmonpklghaaGreatDoor
open Go.RowKit

/-- Numbers laid into cells, the first i of them. -/
def setF (fs : List Nat) (xs : List Int) (cs : Array Value) : Nat → Array Value
  | 0 => cs
  | i + 1 => (setF fs xs cs i).setIfInBounds (fs.getD i 0) (.int .i64 (xs.getD i 0))
theorem setF_size (fs : List Nat) (xs : List Int) (cs : Array Value) (i : Nat) : (setF fs xs cs i).size = cs.size := by
  induction i with
  | zero => rfl
  | succ i ih => rw [setF, Array.size_setIfInBounds, ih]

set_option maxRecDepth 100000 in
set_option maxHeartbeats 4000000 in
theorem take_any (bc bl ba : Nat) (fs : List Nat) (xs : List Int) (p : Option Addr) (c : Nat) (cs : Array Value) (w : World)
    (hl : w.heap[bl]? = some (.cells #[.slice (some ⟨ba, 0, none⟩) fs.length fs.length] 300 (0, 0))) (ha : w.heap[ba]? = some (.cells (fs.map (at0c bc)).toArray 301 (0, 0)))
    (hc : w.heap[bc]? = some (.cells cs 59 (0, 0))) (hx : IntsL w p xs) (hxl : xs.length = fs.length) (hfs : ∀ i, i < fs.length → fs.getD i 0 < cs.size) (hp : ∀ b off, p = some ⟨b, off, none⟩ → b ≠ bc) (h10 : fs.length ≤ 10) :
    Calls Tryz.prog 163 #[.slice p xs.length c, .pointer (some ⟨bl, 0, none⟩)] w fun e w' => e = .returned (.int .i64 0) ∧ w'.heap[bc]? = some (.cells (setF fs xs cs fs.length) 59 (0, 0)) ∧ Mod (· = bc) w w' := by
  have hne1 : bl ≠ bc := fun e => by subst e; rw [hl] at hc; simp at hc
  have hne2 : ba ≠ bc := fun e => by subst e; rw [ha] at hc; simp at hc
  rw [hxl]
  replace hxl := hide hxl
  replace hx := hide hx
  replace hfs := hide hfs
  replace hp := hide hp
  replace hl := hide hl
  replace ha := hide ha
  replace hc := hide hc
  go_enter Tryz.func163, Tryz.ntmps163
  go_wp2_with fail
  go_loopw [8] (fun vi wr => ∃ i : Nat, i ≤ fs.length ∧ vi = .int .i64 i ∧ wr.heap[bc]? = some (.cells (setF fs xs cs i) 59 (0, 0)) ∧ Mod (· = bc) w wr) (fun vi _ => fs.length - (intOf vi).toNat)
  case atStart => exact ⟨0, by omega, rfl, hc.out, Mod.refl _ _⟩
  case round =>
    obtain ⟨i, hi, rfl, hcr, hm⟩ := hrel
    by_cases hlt : i < fs.length
    · obtain ⟨b, off, hpb, _, hcell⟩ := hx.out i (by rw [hxl.out]; exact hlt)
      replace hcell := hm.cellAt (hp.out _ _ hpb) hcell
      have c1 := cell_of_block (hm.heap hl.out hne1) 0 (v := .slice (some ⟨ba, 0, none⟩) fs.length fs.length) rfl
      have c2 := cell_of_block (hm.heap ha.out hne2) i (v := at0c bc (fs.getD i 0)) (by simp [List.getD, hlt])
      have hfl := hfs.out i hlt
      have hcc : ∃ u, wr.cell? ⟨bc, fs.getD i 0, none⟩ = some u := ⟨_, cell_of_block hcr _ (Array.getElem?_eq_getElem (by rw [setF_size]; exact hfl))⟩
      obtain ⟨u, hcu⟩ := hcc
      have hfr := frozen_of_block hcr (fs.getD i 0)
      have hset := hide (heap_setCell_eq (o := fs.getD i 0) hcr (.int .i64 (xs.getD i 0)))
      have hms := hide (hm.set1 (b := bc) (fs.getD i 0) (.int .i64 (xs.getD i 0)))
      have hsn : Hid (setF fs xs cs (i + 1) = (setF fs xs cs i).setIfInBounds (fs.getD i 0) (.int .i64 (xs.getD i 0))) := hide rfl
      replace hcr := hide hcr
      replace hm := hide hm
      subst hpb
      generalize fs.getD i 0 = f at c2 hfl hcu hfr hset hms hsn
      generalize xs.getD i 0 = x at hcell hset hms hsn
      clear hfl
      have hi0 : (0 : Int) ≤ (i : Int) := by omega
      have hi1 : (i : Int) < (fs.length : Int) := by omega
      go_wp2_with fail
      go_roundw
      case rel => exact ⟨i + 1, by omega, by go_num, by rw [hsn.out]; exact hset.out, hms.out⟩
      case measure => simp [intOf]; omega
    · obtain rfl : i = fs.length := by omega
      replace hcr := hide hcr
      replace hm := hide hm
      go_wp2
      go_ret
      exact ⟨rfl, hcr.out, hm.out⟩
end Go.Proofs.YtjlilmonpklghaaGreatDoor

