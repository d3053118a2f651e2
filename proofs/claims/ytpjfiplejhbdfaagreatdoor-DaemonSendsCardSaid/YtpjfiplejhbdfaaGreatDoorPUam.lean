/- sane.Look (contract). A list of ints in memory; slices.Index, Contains, Equal at []int. conf.Check. conf.Same, and the document's. What a word of a config does with its numbers. The word 'server'. -/
import Derived.Test.YtpjfiplejhbdfaaGreatDoorPUal
import Derived.Test.YtpjfiplejhbdfaaGreatDoorPUad
import Derived.Test.YtpjfiplejhbdfaaGreatDoorPUaa
import Derived.Test.YtpjfiplejhbdfaaGreatDoorPUaf
import Derived.Test.YtpjfiplejhbdfaaGreatDoorPUaj
namespace Go.Proofs.YtpjfiplejhbdfaaGreatDoor
open Go.RowKit

theorem first_test (p : PktS) (c : Nat) : (if firstB (testB p c) = 7 then (0 : Int) else 5 + (firstB (testB p c) : Int)) = testR p c := by
  unfold testR firstB testB
  by_cases h0 : p.version ≠ 4
  · simp [h0]
  by_cases h1 : p.mode ≠ 4
  · simp [h0, h1]
  by_cases h2 : c = 0 ∨ p.orig ≠ c
  · simp [h0, h1, h2]
  by_cases h3 : p.stratum = 0
  · simp [h0, h1, h2, h3]
  by_cases h4 : p.leap = 3
  · simp [h0, h1, h2, h3, h4]
  by_cases h5 : 15 < p.stratum
  · simp [h0, h1, h2, h3, h4, h5]
  by_cases h6 : p.recv = 0 ∨ p.xmit = 0
  · simp [h0, h1, h2, h3, h4, h5, h6]
  · simp [h0, h1, h2, h3, h4, h5, h6]
theorem first_full (p : PktS) (c : Nat) : (firstB (testB p c) = 7 ∨ firstB (testB p c) = 3) ↔ (testR p c = 0 ∨ testR p c = 8) := by
  rw [← first_test]
  split
  · rename_i h; simp [h]
  · rename_i h
    constructor
    · rintro (h2 | h2)
      · exact absurd h2 h
      · right; rw [h2]; rfl
    · rintro (h2 | h2)
      · omega
      · right; omega
theorem lookOut_eq (p : PktS) (c : Nat) : lookOut (testB p c) p.val = .tuple #[(if testR p c = 0 ∨ testR p c = 8 then p else pkt0).val, .int .i64 (testR p c)] := by
  unfold lookOut
  rw [first_test]
  by_cases h : testR p c = 0 ∨ testR p c = 8
  · rw [if_pos ((first_full p c).2 h), if_pos h]
  · rw [if_neg (fun x => h ((first_full p c).1 x)), if_neg h]
    rfl
theorem look_any (b off cap : Nat) (l : List Nat) (c : Nat) (h48 : 48 ≤ l.length) (hl : l.length ≤ cap) (hl2 : l.length ≤ 9223372036854775807) (hc : cap ≤ 9223372036854775807) (w : World) (h : BytesAt w b off l) :
    Calls Tryz.prog 145 #[.slice (some ⟨b, off, none⟩) l.length cap, .int .u64 c] w fun e w' => e = .returned (.tuple #[(lookP l c).val, .int .i64 (lookR l c)]) ∧ Mod NoB w w' := by
  have hcore := look_core (pktOf l).leap (pktOf l).version (pktOf l).mode (pktOf l).stratum (pktOf l).poll (pktOf l).prec (pktOf l).delay (pktOf l).disp (pktOf l).refs (pktOf l).ref (pktOf l).orig (pktOf l).recv (pktOf l).xmit
    (testB (pktOf l) c) c (.slice (some ⟨b, off, none⟩) l.length cap) (test0_any _ _) (test1_any _ _) (test2_any _ _) (test3_any _ _) (test4_any _ _) (test5_any _ _) (test6_any _ _) w
    (fun w' hm => get_any b off cap l h48 hl hl2 hc w' (h.mod hm id))
  have e1 : lookP l c = if testR (pktOf l) c = 0 ∨ testR (pktOf l) c = 8 then pktOf l else pkt0 := by unfold lookP; rw [if_neg (by omega)]
  have e2 : lookR l c = testR (pktOf l) c := by unfold lookR; rw [if_neg (by omega)]
  rw [e1, e2, ← lookOut_eq]
  exact hcore
end Go.Proofs.YtpjfiplejhbdfaaGreatDoor

namespace Go.Proofs.YtpjfiplejhbdfaaGreatDoor
open Go.RowKit

/-- The ints xs lie at p. -/
def IntsL (w : World) (p : Option Addr) (xs : List Int) : Prop :=
  ∀ j, j < xs.length → ∃ b off, p = some ⟨b, off, none⟩ ∧ b < w.heap.size ∧ w.cell? ⟨b, off + j, none⟩ = some (.int .i64 (xs.getD j 0))
theorem IntsL.mod {S : Nat → Prop} {w w' : World} {p : Option Addr} {xs : List Int} (h : IntsL w p xs) (hm : Mod S w w') (hS : ∀ b off, p = some ⟨b, off, none⟩ → ¬ S b) : IntsL w' p xs := fun j hj => by
  obtain ⟨b, off, h1, h2, h3⟩ := h j hj
  exact ⟨b, off, h1, Nat.lt_of_lt_of_le h2 hm.size, hm.cellAt (hS _ _ h1) h3⟩
theorem IntsL.mod0 {w w' : World} {p : Option Addr} {xs : List Int} (h : IntsL w p xs) (hm : Mod NoB w w') : IntsL w' p xs := h.mod hm (fun _ _ _ => id)
theorem IntsL.take {w : World} {p : Option Addr} {xs : List Int} (h : IntsL w p xs) (n : Nat) : IntsL w p (xs.take n) := fun j hj => by
  have h1 : j < xs.length := by simp at hj; omega
  have h2 : j < n := by simp at hj; omega
  obtain ⟨b, off, a1, a2, a3⟩ := h j h1
  refine ⟨b, off, a1, a2, ?_⟩
  rw [a3]
  simp [List.getD, List.getElem?_take_of_lt h2]

/-- Where v stands first. -/
def indexI : List Int → Int → Nat → Int
  | [], _, _ => -1
  | x :: r, v, i => if v = x then i else indexI r v (i + 1)
def inI (xs : List Int) (v : Int) : Bool := xs.contains v
theorem index_skip (xs : List Int) (v : Int) : ∀ (k i : Nat), v ∉ xs.take k → indexI xs v i = indexI (xs.drop k) v (i + min k xs.length) := by
  induction xs with
  | nil => intro k i _; simp
  | cons x xs ih =>
    intro k i hk
    cases k with
    | zero => simp
    | succ k =>
      simp only [List.take_succ_cons, List.mem_cons, not_or] at hk
      rw [indexI, if_neg hk.1, ih k (i + 1) hk.2, List.drop_succ_cons]
      congr 1
      simp only [List.length_cons]
      omega
theorem index_at {xs : List Int} {v : Int} {k : Nat} (hk : k < xs.length) (hno : v ∉ xs.take k) (hv : xs.getD k 0 = v) : indexI xs v 0 = k := by
  rw [index_skip xs v k 0 hno]
  have : xs.drop k = v :: xs.drop (k + 1) := by
    rw [← List.getElem_cons_drop hk]
    congr 1
    rw [← hv]
    simp [List.getD, hk]
  rw [this, indexI, if_pos rfl]
  congr 1
  omega
theorem indexI_none {xs : List Int} {v : Int} (h : v ∉ xs) : indexI xs v 0 = -1 := by
  rw [index_skip xs v xs.length 0 (by rw [List.take_length]; exact h), List.drop_length]
  rfl
theorem take_mem {xs : List Int} {v : Int} {k : Nat} (hk : k < xs.length) (h : v ∉ xs.take k) (hv : ¬ v = xs.getD k 0) : v ∉ xs.take (k + 1) := by
  rw [List.take_add_one]
  have : xs[k]? = some (xs.getD k 0) := by simp [List.getD, hk]
  rw [this]
  simp only [Option.toList_some, List.mem_append, List.mem_singleton, not_or]
  exact ⟨h, hv⟩
theorem index_ge (xs : List Int) (v : Int) : decide (0 ≤ indexI xs v 0) = inI xs v := by
  have key : ∀ (xs : List Int) (i : Nat), decide (0 ≤ indexI xs v i) = xs.contains v := by
    intro xs
    induction xs with
    | nil => intro i; rfl
    | cons x xs ih =>
      intro i
      rw [indexI, List.contains_cons]
      by_cases h : v = x
      · rw [if_pos h]; simp [h]
      · rw [if_neg h, ih]; simp [h]
  exact key xs 0

set_option maxHeartbeats 2000000 in
theorem sindex_any (p : Option Addr) (xs : List Int) (c : Nat) (v : Int) (w : World) (h : IntsL w p xs) (hl : xs.length ≤ 1000000) :
    Calls Tryz.prog 93 #[.slice p xs.length c, .int .i64 v] w fun e w' => e = .returned (.int .i64 (indexI xs v 0)) ∧ Mod NoB w w' := by
  go_enter Tryz.func93, Tryz.ntmps93
  go_wp2_with fail
  go_loop [8] (fun vi => ∃ i : Nat, i ≤ xs.length ∧ vi = .int .i64 i ∧ v ∉ xs.take i) (fun vi => xs.length - (intOf vi).toNat)
  case atStart => exact ⟨0, by omega, rfl, by simp⟩
  case round =>
    obtain ⟨i, hi, rfl, hno⟩ := hrel
    by_cases hlt : i < xs.length
    · obtain ⟨b, off, rfl, hb, hc⟩ := h i hlt
      have hat := hide (fun hv => index_at (v := v) hlt hno hv)
      have htk := hide (fun hv => take_mem (v := v) hlt hno hv)
      replace hno := hide hno
      replace h := hide h
      generalize xs.getD i 0 = x at hc hat htk
      by_cases hv : v = x
      · subst hv
        have hvv : (v == v) = true := by simp
        go_wp2
        go_ret
        exact ⟨int_ret (hat.out (by first | rfl | trivial)).symm, Mod.refl _ _⟩
      · have hvv : (v == x) = false := by simpa using hv
        go_wp2
        go_round
        case rel => exact ⟨i + 1, by omega, by go_num, htk.out hv⟩
        case measure => simp [intOf]; omega
    · obtain rfl : i = xs.length := by omega
      rw [List.take_length] at hno
      have hn := hide (indexI_none hno)
      clear hno h
      go_wp2
      go_ret
      exact ⟨int_ret hn.out.symm, Mod.refl _ _⟩

theorem contains_any (p : Option Addr) (xs : List Int) (c : Nat) (v : Int) (w : World) (h : IntsL w p xs) (hl : xs.length ≤ 1000000) :
    Calls Tryz.prog 109 #[.slice p xs.length c, .int .i64 v] w fun e w' => e = .returned (.bool (inI xs v)) ∧ Mod NoB w w' := by
  have hi := hide (sindex_any p xs c v w h hl)
  have hg := hide (index_ge xs v)
  clear h
  go_enter Tryz.func109, Tryz.ntmps109
  go_wp2_with fail
  refine hi.out.mono ?_
  rintro e w1 ⟨rfl, hm⟩
  replace hm := hide hm
  generalize indexI xs v 0 = r at hg
  go_wp2
  go_ret
  exact ⟨bool_ret hg.out, hm.out⟩

/-- Is a number between two? -/
def inB3 (n lo hi : Int) : Bool := decide (lo ≤ n) && decide (n ≤ hi)
theorem within_any (n lo hi : Int) (w : World) : Calls Tryz.prog 111 #[.int .i64 n, .int .i64 lo, .int .i64 hi] w fun e w' => e = .returned (.bool (inB3 n lo hi)) ∧ w' = w := by
  by_cases h1 : lo ≤ n
  · by_cases h2 : n ≤ hi
    · have hr : inB3 n lo hi = true := by simp [inB3, h1, h2]
      rw [hr]
      clear hr
      go_enter Tryz.func111, Tryz.ntmps111
      go_wp2
      go_ret
      exact ⟨bool_ret (by simp), rfl⟩
    · have hr : inB3 n lo hi = false := by simp [inB3, h2]
      rw [hr]
      clear hr
      go_enter Tryz.func111, Tryz.ntmps111
      go_wp2
      go_ret
      exact ⟨bool_ret (by simp), rfl⟩
  · have hr : inB3 n lo hi = false := by simp [inB3, h1]
    rw [hr]
    clear hr
    go_enter Tryz.func111, Tryz.ntmps111
    go_wp2
    go_ret
    exact ⟨bool_ret (by simp), rfl⟩
end Go.Proofs.YtpjfiplejhbdfaaGreatDoor

namespace Go.Proofs.YtpjfiplejhbdfaaGreatDoor
open Go.RowKit

/-- What is wrong with the first n servers. -/
def srvErr (xs : List Int) : Nat → Int
  | 0 => 0
  | n + 1 => if srvErr xs n ≠ 0 then srvErr xs n else if inB3 (xs.getD n 0) 1 65535 = false then 3 else if inI (xs.take n) (xs.getD n 0) = true then 12 else 0
/-- What is wrong with the numbers. -/
def numErr (n q l m d s : Int) : Int := if (inB3 l 4 1024 && inB3 m l 1024 && inB3 q 1 n && inB3 d 1 (1000 * l - 2000) && inB3 s 1 500) = true then 0 else 3
/-- What is wrong with a config. -/
def checkR (xs : List Int) (q l m d s : Int) : Int :=
  if xs.length = 0 then 13 else if 16 < xs.length then 11 else if srvErr xs xs.length ≠ 0 then srvErr xs xs.length else numErr xs.length q l m d s

theorem srv_stop {xs : List Int} {k : Nat} (h : srvErr xs k ≠ 0) : ∀ n, srvErr xs (k + n) = srvErr xs k := by
  intro n
  induction n with
  | zero => rfl
  | succ n ih =>
    show (if srvErr xs (k + n) ≠ 0 then srvErr xs (k + n) else _) = _
    rw [ih, if_pos h]
theorem srv_at {xs : List Int} {k : Nat} {e : Int} (hk : k < xs.length) (h : srvErr xs (k + 1) = e) (he : e ≠ 0) : srvErr xs xs.length = e := by
  obtain ⟨n, hn⟩ : ∃ n, xs.length = k + 1 + n := ⟨xs.length - (k + 1), by omega⟩
  rw [hn, srv_stop (by rw [h]; exact he), h]
theorem srv_low {xs : List Int} {k : Nat} (h0 : srvErr xs k = 0) (h : inB3 (xs.getD k 0) 1 65535 = false) : srvErr xs (k + 1) = 3 := by
  rw [srvErr, if_neg (by rw [h0]; simp), if_pos h]
theorem srv_twice {xs : List Int} {k : Nat} (h0 : srvErr xs k = 0) (h : inB3 (xs.getD k 0) 1 65535 = true) (h2 : inI (xs.take k) (xs.getD k 0) = true) : srvErr xs (k + 1) = 12 := by
  rw [srvErr, if_neg (by rw [h0]; simp), if_neg (by rw [h]; simp), if_pos h2]
theorem srv_fine {xs : List Int} {k : Nat} (h0 : srvErr xs k = 0) (h : inB3 (xs.getD k 0) 1 65535 = true) (h2 : inI (xs.take k) (xs.getD k 0) = false) : srvErr xs (k + 1) = 0 := by
  rw [srvErr, if_neg (by rw [h0]; simp), if_neg (by rw [h]; simp), if_neg (by rw [h2]; simp)]
theorem inB3_true {n lo hi : Int} (h : inB3 n lo hi = true) : lo ≤ n ∧ n ≤ hi := by
  simpa [inB3] using h
theorem check_srv {xs : List Int} {q l m d s e : Int} (h0 : xs.length ≠ 0) (h16 : ¬ 16 < xs.length) (h : srvErr xs xs.length = e) (he : e ≠ 0) : checkR xs q l m d s = e := by
  rw [checkR, if_neg h0, if_neg h16, if_pos (by rw [h]; exact he), h]
theorem check_num {xs : List Int} {q l m d s : Int} (h0 : xs.length ≠ 0) (h16 : ¬ 16 < xs.length) (h : srvErr xs xs.length = 0) : checkR xs q l m d s = numErr xs.length q l m d s := by
  rw [checkR, if_neg h0, if_neg h16, if_neg (by rw [h]; simp)]

/-- A config by value. -/
abbrev cfgV (p : Option Addr) (n c : Nat) (q l m d s : Int) : Value := .agg #[.slice p n c, .int .i64 q, .int .i64 l, .int .i64 m, .int .i64 d, .int .i64 s]

set_option maxRecDepth 100000 in
set_option maxHeartbeats 8000000 in
theorem check_any (p : Option Addr) (xs : List Int) (c : Nat) (q l m d s : Int) (w : World) (h : IntsL w p xs) (hc : xs.length ≤ c) (hl : xs.length ≤ 1000000) :
    Calls Tryz.prog 74 #[cfgV p xs.length c q l m d s] w fun e w' => e = .returned (.int .i64 (checkR xs q l m d s)) ∧ Mod NoB w w' := by
  obtain ⟨r, hr⟩ : ∃ r, checkR xs q l m d s = r := ⟨_, rfl⟩
  rw [hr]
  replace hr := hide hr
  replace h := hide h
  by_cases h0 : xs.length = 0
  · have h13 : Hid (r = 13) := hide (by rw [← hr.out, checkR, if_pos h0])
    go_enter Tryz.func74, Tryz.ntmps74
    go_wp2
    go_ret
    exact ⟨int_ret h13.out.symm, (Mod.refl _ _).alloc _⟩
  · by_cases h16 : 16 < xs.length
    · have h11 : Hid (r = 11) := hide (by rw [← hr.out, checkR, if_neg h0, if_pos h16])
      have hz : ((xs.length : Int) == 0) = false := beq_eq_false_iff_ne.mpr (by omega)
      go_enter Tryz.func74, Tryz.ntmps74
      go_wp2
      go_ret
      exact ⟨int_ret h11.out.symm, (Mod.refl _ _).alloc _⟩
    · have hz : ((xs.length : Int) == 0) = false := beq_eq_false_iff_ne.mpr (by omega)
      have hg : decide ((16 : Int) < (xs.length : Int)) = false := by simp; omega
      have hs3 := hide (fun (e : Int) (a : srvErr xs xs.length = e) (b : e ≠ 0) => hr.out.symm.trans (check_srv h0 h16 a b))
      have hnum := hide (fun (a : srvErr xs xs.length = 0) => hr.out.symm.trans (check_num (q := q) (l := l) (m := m) (d := d) (s := s) h0 h16 a))
      have hB := heap_alloc_new w (.cells #[.slice p xs.length c, .int .i64 q, .int .i64 l, .int .i64 m, .int .i64 d, .int .i64 s] 31)
      replace hB := hide hB
      go_enter Tryz.func74, Tryz.ntmps74
      go_wp2_with fail
      obtain ⟨W1, hW1⟩ : ∃ W1, w.alloc (.cells #[.slice p xs.length c, .int .i64 q, .int .i64 l, .int .i64 m, .int .i64 d, .int .i64 s] 31) = W1 := ⟨_, rfl⟩
      rw [hW1] at hB ⊢
      have hm1 : Hid (Mod NoB w W1) := hide (by rw [← hW1]; exact (Mod.refl _ _).alloc _)
      clear hW1
      go_loopw [18] (fun vi wr => ∃ i : Nat, i ≤ xs.length ∧ vi = .int .i64 i ∧ srvErr xs i = 0 ∧ Mod NoB W1 wr) (fun vi _ => xs.length - (intOf vi).toNat)
      case atStart => exact ⟨0, by omega, rfl, rfl, Mod.refl _ _⟩
      case round =>
        obtain ⟨i, hi, rfl, hsi, hm⟩ := hrel
        have hBr := hm.heap hB.out id
        have b0 := cell_of_block hBr 0 (v := .slice p xs.length c) rfl
        by_cases hlt : i < xs.length
        · obtain ⟨b, off, hp, hb, hcell⟩ := h.out i hlt
          replace hcell := (hm1.out.trans hm).cellAt id hcell
          have hlow := hide (fun h => hs3.out 3 (srv_at hlt (srv_low hsi h) (by decide)) (by decide))
          have htw := hide (fun h h2 => hs3.out 12 (srv_at hlt (srv_twice hsi h h2) (by decide)) (by decide))
          have hfi := hide (fun h h2 => srv_fine (xs := xs) (k := i) hsi h h2)
          have htl : (xs.take i).length = i := by simp; omega
          have hct := fun w' v (h' : Mod NoB wr w') => contains_any p (xs.take i) c v w' ((h.out.mod0 ((hm1.out.trans hm).trans h')).take i) (by omega)
          rw [htl] at hct
          replace hct := hide hct
          subst hp
          replace hm := hide hm
          replace hsi := hide hsi
          replace htl := hide htl
          generalize xs.getD i 0 = x at hcell hlow htw hfi
          have hic : (i : Int) ≤ (c : Int) := by omega
          go_wp2_with fail
          refine (within_any x 1 65535 _).mono ?_
          rintro e w' ⟨rfl, rfl⟩
          cases hin : inB3 x 1 65535 with
          | false =>
            have h3 := hide (hlow.out hin)
            clear hlow htw hfi hct hin
            go_wp2
            go_ret
            exact ⟨int_ret h3.out.symm, hm1.out.trans hm.out⟩
          | true =>
            go_wp2_with fail
            refine (hct.out _ x (Mod.refl _ _)).mono ?_
            rintro e w2 ⟨rfl, hm2⟩
            replace hm := hide (hm.out.trans hm2)
            clear hm2
            cases hin2 : inI (xs.take i) x with
            | true =>
              have h12 := hide (htw.out hin hin2)
              clear hlow htw hfi hct hin hin2
              go_wp2
              go_ret
              exact ⟨int_ret h12.out.symm, hm1.out.trans hm.out⟩
            | false =>
              have hsn := hide (hfi.out hin hin2)
              clear hlow htw hfi hct hin hin2
              go_wp2_with fail
              go_roundw
              case rel => exact ⟨i + 1, by omega, by go_num, hsn.out, hm.out⟩
              case measure => simp [intOf]; omega
        · obtain rfl : i = xs.length := by omega
          have hrn : r = numErr xs.length q l m d s := hnum.out hsi
          unfold numErr at hrn
          replace hsi := hide hsi
          have b1 := cell_of_block hBr 1 (v := .int .i64 q) rfl
          have b2 := cell_of_block hBr 2 (v := .int .i64 l) rfl
          have b3 := cell_of_block hBr 3 (v := .int .i64 m) rfl
          have b4 := cell_of_block hBr 4 (v := .int .i64 d) rfl
          have b5 := cell_of_block hBr 5 (v := .int .i64 s) rfl
          replace hBr := hide hBr
          replace hm := hide hm
          go_wp2_with fail
          refine (within_any l 4 1024 _).mono ?_
          rintro e w' ⟨rfl, rfl⟩
          cases e0 : inB3 l 4 1024 with
          | false =>
            have h3 : Hid (r = 3) := hide (by rw [hrn, e0]; simp)
            clear hrn e0
            go_wp2
            go_ret
            exact ⟨int_ret h3.out.symm, hm1.out.trans hm.out⟩
          | true =>
            have hl2 := inB3_true e0
            obtain ⟨hl4, hl1024⟩ := hl2
            skip
            go_wp2_with fail
            refine (within_any m l 1024 _).mono ?_
            rintro e w' ⟨rfl, rfl⟩
            cases e1 : inB3 m l 1024 with
            | false =>
              have h3 : Hid (r = 3) := hide (by rw [hrn, e1]; simp)
              clear hrn e0 e1
              go_wp2
              go_ret
              exact ⟨int_ret h3.out.symm, hm1.out.trans hm.out⟩
            | true =>
              skip
              go_wp2_with fail
              refine (within_any q 1 xs.length _).mono ?_
              rintro e w' ⟨rfl, rfl⟩
              cases e2 : inB3 q 1 xs.length with
              | false =>
                have h3 : Hid (r = 3) := hide (by rw [hrn, e2]; simp)
                clear hrn e0 e1 e2
                go_wp2
                go_ret
                exact ⟨int_ret h3.out.symm, hm1.out.trans hm.out⟩
              | true =>
                skip
                go_wp2_with fail
                refine (within_any d 1 (1000 * l - 2000) _).mono ?_
                rintro e w' ⟨rfl, rfl⟩
                cases e3 : inB3 d 1 (1000 * l - 2000) with
                | false =>
                  have h3 : Hid (r = 3) := hide (by rw [hrn, e3]; simp)
                  clear hrn e0 e1 e2 e3
                  go_wp2
                  go_ret
                  exact ⟨int_ret h3.out.symm, hm1.out.trans hm.out⟩
                | true =>
                  skip
                  go_wp2_with fail
                  refine (within_any s 1 500 _).mono ?_
                  rintro e w' ⟨rfl, rfl⟩
                  cases e4 : inB3 s 1 500 with
                  | false =>
                    have h3 : Hid (r = 3) := hide (by rw [hrn, e4]; simp)
                    clear hrn e0 e1 e2 e3 e4
                    go_wp2
                    go_ret
                    exact ⟨int_ret h3.out.symm, hm1.out.trans hm.out⟩
                  | true =>
                    skip
                    have h3 : Hid (r = 0) := hide (by rw [hrn, e0, e1, e2, e3, e4]; simp)
                    clear hrn e0 e1 e2 e3 e4
                    go_wp2
                    go_ret
                    exact ⟨int_ret h3.out.symm, hm1.out.trans hm.out⟩
end Go.Proofs.YtpjfiplejhbdfaaGreatDoor

namespace Go.Proofs.YtpjfiplejhbdfaaGreatDoor
open Go.RowKit

/-- A config. -/
structure Cfg where
  srv : List Int
  q : Int
  l : Int
  m : Int
  d : Int
  s : Int
/-- A config by value, its servers at p. -/
abbrev Cfg.val (a : Cfg) (p : Option Addr) (c : Nat) : Value := cfgV p a.srv.length c a.q a.l a.m a.d a.s

end Go.Proofs.YtpjfiplejhbdfaaGreatDoor

namespace Go.Proofs.YtpjfiplejhbdfaaGreatDoor
open Go.RowKit

/-- Numbers laid into cells, the first i of them. -/
def setF (fs : List Nat) (xs : List Int) (cs : Array Value) : Nat → Array Value
  | 0 => cs
  | i + 1 => (setF fs xs cs i).setIfInBounds (fs.getD i 0) (.int .i64 (xs.getD i 0))
theorem setF_size (fs : List Nat) (xs : List Int) (cs : Array Value) (i : Nat) : (setF fs xs cs i).size = cs.size := by
  induction i with
  | zero => rfl
  | succ i ih => rw [setF, Array.size_setIfInBounds, ih]

set_option maxRecDepth 100000 in
set_option maxHeartbeats 4000000 in
theorem take_any (bc bl ba : Nat) (fs : List Nat) (xs : List Int) (p : Option Addr) (c : Nat) (cs : Array Value) (w : World)
    (hl : w.heap[bl]? = some (.cells #[.slice (some ⟨ba, 0, none⟩) fs.length fs.length] 229 (0, 0))) (ha : w.heap[ba]? = some (.cells (fs.map (at0c bc)).toArray 230 (0, 0)))
    (hc : w.heap[bc]? = some (.cells cs 31 (0, 0))) (hx : IntsL w p xs) (hxl : xs.length = fs.length) (hfs : ∀ i, i < fs.length → fs.getD i 0 < cs.size) (hp : ∀ b off, p = some ⟨b, off, none⟩ → b ≠ bc) (h10 : fs.length ≤ 10) :
    Calls Tryz.prog 107 #[.slice p xs.length c, .pointer (some ⟨bl, 0, none⟩)] w fun e w' => e = .returned (.int .i64 0) ∧ w'.heap[bc]? = some (.cells (setF fs xs cs fs.length) 31 (0, 0)) ∧ Mod (· = bc) w w' := by
  have hne1 : bl ≠ bc := fun e => by subst e; rw [hl] at hc; simp at hc
  have hne2 : ba ≠ bc := fun e => by subst e; rw [ha] at hc; simp at hc
  rw [hxl]
  replace hxl := hide hxl
  replace hx := hide hx
  replace hfs := hide hfs
  replace hp := hide hp
  replace hl := hide hl
  replace ha := hide ha
  replace hc := hide hc
  go_enter Tryz.func107, Tryz.ntmps107
  go_wp2_with fail
  go_loopw [8] (fun vi wr => ∃ i : Nat, i ≤ fs.length ∧ vi = .int .i64 i ∧ wr.heap[bc]? = some (.cells (setF fs xs cs i) 31 (0, 0)) ∧ Mod (· = bc) w wr) (fun vi _ => fs.length - (intOf vi).toNat)
  case atStart => exact ⟨0, by omega, rfl, hc.out, Mod.refl _ _⟩
  case round =>
    obtain ⟨i, hi, rfl, hcr, hm⟩ := hrel
    by_cases hlt : i < fs.length
    · obtain ⟨b, off, hpb, _, hcell⟩ := hx.out i (by rw [hxl.out]; exact hlt)
      replace hcell := hm.cellAt (hp.out _ _ hpb) hcell
      have c1 := cell_of_block (hm.heap hl.out hne1) 0 (v := .slice (some ⟨ba, 0, none⟩) fs.length fs.length) rfl
      have c2 := cell_of_block (hm.heap ha.out hne2) i (v := at0c bc (fs.getD i 0)) (by simp [List.getD, hlt])
      have hfl := hfs.out i hlt
      have hcc : ∃ u, wr.cell? ⟨bc, fs.getD i 0, none⟩ = some u := ⟨_, cell_of_block hcr _ (Array.getElem?_eq_getElem (by rw [setF_size]; exact hfl))⟩
      obtain ⟨u, hcu⟩ := hcc
      have hfr := frozen_of_block hcr (fs.getD i 0)
      have hset := hide (heap_setCell_eq (o := fs.getD i 0) hcr (.int .i64 (xs.getD i 0)))
      have hms := hide (hm.set1 (b := bc) (fs.getD i 0) (.int .i64 (xs.getD i 0)))
      have hsn : Hid (setF fs xs cs (i + 1) = (setF fs xs cs i).setIfInBounds (fs.getD i 0) (.int .i64 (xs.getD i 0))) := hide rfl
      replace hcr := hide hcr
      replace hm := hide hm
      subst hpb
      generalize fs.getD i 0 = f at c2 hfl hcu hfr hset hms hsn
      generalize xs.getD i 0 = x at hcell hset hms hsn
      clear hfl
      have hi0 : (0 : Int) ≤ (i : Int) := by omega
      have hi1 : (i : Int) < (fs.length : Int) := by omega
      go_wp2_with fail
      go_roundw
      case rel => exact ⟨i + 1, by omega, by go_num, by rw [hsn.out]; exact hset.out, hms.out⟩
      case measure => simp [intOf]; omega
    · obtain rfl : i = fs.length := by omega
      replace hcr := hide hcr
      replace hm := hide hm
      go_wp2
      go_ret
      exact ⟨rfl, hcr.out, hm.out⟩
end Go.Proofs.YtpjfiplejhbdfaaGreatDoor

namespace Go.Proofs.YtpjfiplejhbdfaaGreatDoor
open Go.RowKit

/-- The config that is being read: its block, its servers in a row of the call's own. -/
def CfgAt (base bc : Nat) (a : Cfg) (w : World) : Prop :=
  ∃ v, w.heap[bc]? = some (.cells #[v, .int .i64 a.q, .int .i64 a.l, .int .i64 a.m, .int .i64 a.d, .int .i64 a.s] 31 (0, 0)) ∧ w.ownsRow base 3 1 v a.srv.length (a.srv.map (.int .i64))

theorem own_ints {w : World} {base : Nat} {p : Option Addr} {n c : Nat} {xs : List Int} (h : w.ownsRow base 3 1 (.slice p n c) xs.length (xs.map (.int .i64))) : n = xs.length ∧ IntsL w p xs ∧ (∀ b off, p = some ⟨b, off, none⟩ → base ≤ b) := by
  rcases h.2 with ⟨h0, h1⟩ | ⟨g, cap, cur, h0, hb, hg, hc, _, hsz, htk⟩
  · simp only [Value.slice.injEq] at h0
    obtain ⟨rfl, rfl, rfl⟩ := h0
    exact ⟨h1.symm, fun j hj => by omega, fun b off e => by cases e⟩
  · simp only [Value.slice.injEq] at h0
    obtain ⟨rfl, rfl, rfl⟩ := h0
    refine ⟨rfl, fun j hj => ⟨g, 0, rfl, lt_of_block hg, ?_⟩, fun b off e => by cases e; exact hb⟩
    have h2 : (cur.toList.take (xs.length * 1))[j]? = some (.int .i64 (xs.getD j 0)) := by rw [htk, List.getElem?_map]; simp [List.getD, hj]
    rw [Nat.mul_one, List.getElem?_take_of_lt hj, Array.getElem?_toList] at h2
    rw [Nat.zero_add]
    exact cell_of_block hg j h2

theorem infoInt : (Tryz.prog.info? 3).map (fun i => (i.zero, i.size, i.bytes)) = some (some (.int .i64 0), 1, 8) := by kernel_rfl

/-- How the word 'server' ends. -/
def ServerOut (base bc : Nat) (a : Cfg) (v : Int) (w : World) (e : Ending) (w' : World) : Prop :=
  (inI a.srv v = true ∧ e = .returned (.int .i64 12) ∧ Mod NoB w w') ∨ (inI a.srv v = false ∧ a.srv.length = 16 ∧ e = .returned (.int .i64 11) ∧ Mod NoB w w') ∨
  (inI a.srv v = false ∧ a.srv.length ≠ 16 ∧ e = .returned (.int .i64 0) ∧ CfgAt base bc { a with srv := a.srv ++ [v] } w')

set_option maxRecDepth 100000 in
set_option maxHeartbeats 8000000 in
theorem server_any (base bc B0 : Nat) (a : Cfg) (v : Int) (p : Option Addr) (n c : Nat) (hn : 0 < n) (w : World) (hB : w.heap[B0]? = some (.cells #[at0c bc 0] 144 (0, 0))) (hC : CfgAt base bc a w) (hx : ∃ b off, p = some ⟨b, off, none⟩ ∧ w.cell? ⟨b, off, none⟩ = some (.int .i64 v))
    (hbc : bc < base) (hB0 : B0 < base) (h16 : a.srv.length ≤ 1000) (hbw : base ≤ w.heap.size) :
    Calls Tryz.prog 108 #[.slice p n c, .pointer (some ⟨B0, 0, none⟩)] w fun e w' => ServerOut base bc a v w e w' ∧ Mod (fun x => x = bc ∨ base ≤ x) w w' := by
  obtain ⟨sv, hcb, hown⟩ := hC
  obtain ⟨sp, sn, sc, rfl⟩ := own_slice hown
  obtain ⟨rfl, hints, hge⟩ := own_ints hown
  obtain ⟨bx, ox, rfl, hxc⟩ := hx
  have b0 := cell_of_block hB 0 (v := at0c bc 0) rfl
  have b1 := cell_of_block hcb 0 (v := .slice sp a.srv.length sc) rfl
  have hct := fun (y : Since w) => Since.call y (fun w' h => contains_any sp a.srv sc v w' (hints.mod0 h) (by omega))
  replace hct := hide hct
  replace hints := hide hints
  have y0 := Since.cell b0
  have y1 := Since.cell b1
  have yx := Since.cell hxc
  have hn0 : (0 : Int) < (n : Int) := by omega
  cases hin : inI a.srv v with
  | true =>
    rw [hin] at hct
    clear b0 b1 hxc
    go_enter Tryz.func108, Tryz.ntmps108
    go_wp2_with fail
    refine wp_region_mod (by kernel_rfl) (by kernel_rfl) ?_
    repeat (go_big_quiet_step ((go_at_call 109; exact hct.out _)))
    refine wpQuiet_nil ?_
    rintro w3 ⟨⟨w3', hm3⟩, hw3⟩
    obtain rfl : w3 = w3' := hw3
    clear y0 y1 yx
    go_wp2
    go_ret
    exact ⟨Or.inl ⟨hin, rfl, hm3⟩, hm3.mono (fun _ _ h => h.elim)⟩
  | false =>
    rw [hin] at hct
    clear b0 b1 hxc
    go_enter Tryz.func108, Tryz.ntmps108
    go_wp2_with fail
    refine wp_region_mod (by kernel_rfl) (by kernel_rfl) ?_
    repeat (go_big_quiet_step ((go_at_call 109; exact hct.out _)))
    refine wpQuiet_nil ?_
    rintro w3 ⟨⟨w3', hm3⟩, hw3⟩
    obtain rfl : w3 = w3' := hw3
    have b0 : w3.cell? ⟨B0, 0, none⟩ = some (at0c bc 0) := y0 ⟨w3, hm3⟩
    have b1 : w3.cell? ⟨bc, 0, none⟩ = some (.slice sp a.srv.length sc) := y1 ⟨w3, hm3⟩
    have hxc : w3.cell? ⟨bx, ox, none⟩ = some (.int .i64 v) := yx ⟨w3, hm3⟩
    clear y0 y1 yx hct
    by_cases hl16 : a.srv.length = 16
    · have hlb : ((a.srv.length : Int) == 16) = true := by rw [hl16]; rfl
      go_wp2
      go_ret
      exact ⟨Or.inr (Or.inl ⟨hin, hl16, rfl, hm3⟩), hm3.mono (fun _ _ h => h.elim)⟩
    · have hlb : ((a.srv.length : Int) == 16) = false := beq_eq_false_iff_ne.mpr (by omega)
      go_wp2_with fail
      obtain ⟨i0, hi, hz0, hz1, hz2⟩ := info_parts infoInt
      have hcb3 := hm3.heap hcb id
      have hown3 := ownsRow_mod hown hm3 (fun _ h => h.elim)
      have hfr := frozen_of_block hcb3 0
      have hbw3 : base ≤ w3.heap.size := Nat.le_trans hbw hm3.size
      have lB := lt_of_cell b0
      have lC := lt_of_cell b1
      have lX := lt_of_cell hxc
      have hB3 := hide (hm3.heap hB id)
      replace hown3 := hide hown3
      replace hcb3 := hide hcb3
      replace hi := hide hi
      replace hz0 := hide hz0
      replace hz1 := hide hz1
      replace hz2 := hide hz2
      have hl16h := hide hl16
      clear hlb hl16
      go_region_law (
        (refine step_append_own rfl (.tmp 24) (.tmp 28) 29 rfl base 3 i0 (.int .i64 0) 1 8 Tryz.underlying29 hi.out hz0.out hz1.out hz2.out rfl (by decide) (.slice sp a.srv.length sc) a.srv.length (a.srv.map (.int .i64)) rfl ?o ⟨_, 0, none⟩ 1 1 [.int .i64 v] rfl rfl ?n ?one ?m ?mb ?base ?_; (case o => exact (ownsRow_mod (S := NoB) hown3.out ((Mod.refl _ _).alloc _).drew (fun _ f => f.elim))); (case n => exact cell_one_new _ _ _); (case one => (intro u hu; simp at hu; subst hu; rfl)); (case m => (unfold maxLen; omega)); (case mb => omega); (case base => (simp; omega)); intro v' w7 hown' hgrow _; obtain ⟨p', n', c', rfl⟩ := own_slice hown'; have hm7 : Mod (fun x => base ≤ x) w3 w7 := Mod.grownIn (((Mod.refl _ _).alloc _).drew) hgrow (own_ge hown3.out); have hb7 := hm7.heap hcb3.out (by omega); have d1 := cell_of_block hb7 0 (v := .slice sp a.srv.length sc) rfl; have d2 := frozen_of_block hb7 0; have d3 := cell_of_block (hm7.heap hB3.out (by omega)) 0 (v := at0c bc 0) rfl; replace hown' := hide hown'; replace hb7 := hide hb7; replace hm7 := hide hm7; clear hgrow))
      all_goals
        go_wp2
        go_ret
        have hset : Mod (· = bc) w7 (w7.setCell ⟨bc, 0, none⟩ (.slice p' n' c')) := (Mod.refl _ _).set1 _ _
        have hmf : Mod (fun x => x = bc ∨ base ≤ x) w (w7.setCell ⟨bc, 0, none⟩ (.slice p' n' c')) := ((hm3.mono (fun _ _ h => h.elim)).trans (hm7.out.mono fun x _ h => Or.inr h)).trans (hset.mono fun x _ h => Or.inl h)
        have hcf : (w7.setCell ⟨bc, 0, none⟩ (.slice p' n' c')).heap[bc]? = some (.cells #[.slice p' n' c', .int .i64 a.q, .int .i64 a.l, .int .i64 a.m, .int .i64 a.d, .int .i64 a.s] 31 (0, 0)) := by
          rw [heap_setCell_eq hb7.out]; simp
        have hof : (w7.setCell ⟨bc, 0, none⟩ (.slice p' n' c')).ownsRow base 3 1 (.slice p' n' c') (a.srv ++ [v]).length ((a.srv ++ [v]).map (.int .i64)) := by
          have := ownsRow_mod (S := (· = bc)) hown'.out hset (fun b e => by omega)
          simpa using this
        exact ⟨Or.inr (Or.inr ⟨hin, hl16h.out, rfl, .slice p' n' c', hcf, hof⟩), hmf⟩
end Go.Proofs.YtpjfiplejhbdfaaGreatDoor

