/- packet.Put, Query; sane.Good (contracts). packet.word, Get (contracts). -/
import Derived.Test.YtpjfiplejhbdfaaGreatDoorPUaj
import Derived.Test.YtpjfiplejhbdfaaGreatDoorPUac
import Derived.StillTailTactics
namespace Go.Proofs.YtpjfiplejhbdfaaGreatDoor
open Go.RowKit

abbrev pktV (l v m s : Int) (po pr : Int) (d1 d2 d3 : Int) (x0 x1 x2 x3 : Int) : Value :=
  .agg #[.int .u8 l, .int .u8 v, .int .u8 m, .int .u8 s, .int .i8 po, .int .i8 pr, .int .u32 d1, .int .u32 d2, .int .u32 d3, .int .u64 x0, .int .u64 x1, .int .u64 x2, .int .u64 x3]
abbrev PktS.val (p : PktS) : Value := pktV p.leap p.version p.mode p.stratum p.poll p.prec p.delay p.disp p.refs p.ref p.orig p.recv p.xmit
theorem pcheck_ok (m s o r x : Int) (hm : m = 3 ∨ m = 4) (w : World) :
    Calls Tryz.prog 84 #[pktV 0 4 m s 0 0 0 0 0 0 o r x] w fun e w' => e = .returned (.int .i64 0) ∧ Mod NoB w w' := by
  rcases hm with rfl | rfl
  all_goals
    go_enter Tryz.func84, Tryz.ntmps84
    go_wp2
    go_ret
    exact ⟨rfl, (Mod.refl _ _).alloc _⟩
theorem u64_4 (w : World) (a b c d : Nat) (ha : a < 18446744073709551616) (hb : b < 18446744073709551616) (hc : c < 18446744073709551616) (hd : d < 18446744073709551616) (t : TypeId) :
    U64At (w.alloc (.cells #[.int .u64 a, .int .u64 b, .int .u64 c, .int .u64 d] t)) w.heap.size [a, b, c, d] := by
  intro j x hj
  have hn := heap_alloc_new w (.cells #[.int .u64 a, .int .u64 b, .int .u64 c, .int .u64 d] t)
  match j, hj with
  | 0, hj => cases hj; exact ⟨cell_of_block hn 0 rfl, ha⟩
  | 1, hj => cases hj; exact ⟨cell_of_block hn 1 rfl, hb⟩
  | 2, hj => cases hj; exact ⟨cell_of_block hn 2 rfl, hc⟩
  | 3, hj => cases hj; exact ⟨cell_of_block hn 3 rfl, hd⟩
theorem u64_3 (w : World) (a b c : Nat) (ha : a < 18446744073709551616) (hb : b < 18446744073709551616) (hc : c < 18446744073709551616) (t : TypeId) :
    U64At (w.alloc (.cells #[.int .u64 a, .int .u64 b, .int .u64 c] t)) w.heap.size [a, b, c] := by
  intro j x hj
  have hn := heap_alloc_new w (.cells #[.int .u64 a, .int .u64 b, .int .u64 c] t)
  match j, hj with
  | 0, hj => cases hj; exact ⟨cell_of_block hn 0 rfl, ha⟩
  | 1, hj => cases hj; exact ⟨cell_of_block hn 1 rfl, hb⟩
  | 2, hj => cases hj; exact ⟨cell_of_block hn 2 rfl, hc⟩
theorem ownBlock_lt {w : World} {base size n : Nat} {e : TypeId} {v : Value} {xs : List Value} (h : w.ownsRow base e size v n xs) : ∀ b, v.ownBlock = some b → b < w.heap.size := by
  rcases h.2 with ⟨rfl, _⟩ | ⟨g, cap, cur, rfl, hb, hg, _⟩
  · intro b hb; cases hb
  · intro b hb'; cases hb'; exact lt_of_block hg
theorem ownsRow_le {w : World} {base base' size n : Nat} {e : TypeId} {v : Value} {xs : List Value} (h : w.ownsRow base e size v n xs) (hb : base' ≤ base) : w.ownsRow base' e size v n xs :=
  ⟨h.1, h.2.imp id fun ⟨g, cap, cur, h1, h2, r⟩ => ⟨g, cap, cur, h1, Nat.le_trans hb h2, r⟩⟩
/-- What is new, or may be written, beyond a place: seen from further down. -/
theorem Mod.over {w w1 w2 : World} {base : Nat} (h : Mod NoB w w1) (k : Mod (base ≤ ·) w1 w2) (hb : w.heap.size ≤ base) : Mod NoB w w2 := h.into k (fun b hb' => Or.inr (by omega))
set_option maxRecDepth 100000 in
set_option maxHeartbeats 4000000 in
theorem put_any (m s o r x : Nat) (hm : m = 3 ∨ m = 4) (hs : s < 256) (ho : o < 18446744073709551616) (hr : r < 18446744073709551616) (hx : x < 18446744073709551616) (w : World) :
    Calls Tryz.prog 48 #[pktV 0 4 m s 0 0 0 0 0 0 o r x] w fun e w' =>
      ∃ v, e = .returned (.tuple #[v, .int .i64 0]) ∧ w'.ownsRow w.heap.size 5 1 v 48 (bcells (PktS.bytes ⟨0, 4, m, s, 0, 0, 0, 0, 0, 0, o, r, x⟩)) ∧ Mod NoB w w' := by
  have hck := hide (pcheck_ok m s o r x (by omega))
  have hb := heap_alloc_new w (.cells #[.int .u8 0, .int .u8 4, .int .u8 m, .int .u8 s, .int .i8 0, .int .i8 0, .int .u32 0, .int .u32 0, .int .u32 0, .int .u64 0, .int .u64 o, .int .u64 r, .int .u64 x] 119)
  have hm0 := (Mod.refl NoB w).alloc (.cells #[.int .u8 0, .int .u8 4, .int .u8 m, .int .u8 s, .int .i8 0, .int .i8 0, .int .u32 0, .int .u32 0, .int .u32 0, .int .u64 0, .int .u64 o, .int .u64 r, .int .u64 x] 119)
  replace hb := hide hb
  replace hm0 := hide hm0
  have m1 : bits BinOp.or .u8 32 m = 32 + m := by rcases hm with rfl | rfl <;> decide +kernel
  have m2 : bits BinOp.or .u8 0 32 = 32 := by decide +kernel
  go_enter Tryz.func48, Tryz.ntmps48
  go_wp2_with fail
  refine (hck.out _).mono ?_
  rintro e w1 ⟨rfl, hmc⟩
  replace hb := hide (hmc.heap hb.out id)
  replace hm0 := hide (hm0.out.trans hmc)
  have k0 := cell_of_block hb.out 0 rfl
  have k1 := cell_of_block hb.out 1 rfl
  have k2 := cell_of_block hb.out 2 rfl
  have k3 := cell_of_block hb.out 3 rfl
  have k4 := cell_of_block hb.out 4 rfl
  have k5 := cell_of_block hb.out 5 rfl
  have hsz1 := hm0.out.size
  have hsz2 : w.heap.size < w1.heap.size := lt_of_block hb.out
  have hm01 : Mod NoB w (w1.alloc (.cells #[.int .u64 (32 + m : Nat), .int .u64 (s : Nat), .int .u64 (0 : Nat), .int .u64 (0 : Nat)] 33)) := hm0.out.alloc _
  have hwd := pwords_any w1.heap.size (.slice none 0 0) [] 1 w1.heap.size [32 + m, s, 0, 0] (by omega) (by omega) (by simp) (by simp) (w1.alloc (.cells #[.int .u64 (32 + m : Nat), .int .u64 (s : Nat), .int .u64 (0 : Nat), .int .u64 (0 : Nat)] 33))
    (by simp) ⟨rfl, Or.inl ⟨rfl, rfl⟩⟩ (u64_4 w1 _ _ _ _ (by omega) (by omega) (by omega) (by omega) _) (fun b hb => by cases hb) (by simp)
  have hcast : (((32 + m : Nat) : Int)) = 32 + (m : Int) := by omega
  rw [hcast] at hwd hm01
  replace hwd := hide hwd
  have hb1 := hide ((heap_alloc_old hsz2 (.cells #[.int .u64 (32 + m), .int .u64 (s : Nat), .int .u64 (0 : Nat), .int .u64 (0 : Nat)] 33)).trans hb.out)
  replace hm01 := hide hm01
  clear hmc hcast
  go_wp2_with fail
  refine hwd.out.mono ?_
  rintro e w2 ⟨v2, rfl, hrow2, hm2⟩
  replace hb1 := hide (hm2.heap hb1.out (by show ¬ w1.heap.size ≤ _; omega))
  have hsz3 := hm2.size
  rw [World.size_alloc] at hsz3
  replace hm01 := hide (hm01.out.over hm2 (by omega))
  obtain ⟨a2, c2, rfl⟩ := own_value hrow2
  clear k0 k1 k2 k3 k4 k5 hb hm2 hwd hm0
  have k6 := cell_of_block hb1.out 6 rfl
  have k7 := cell_of_block hb1.out 7 rfl
  have k8 := cell_of_block hb1.out 8 rfl
  generalize hL2 : [] ++ wordsL 1 [32 + m, s, 0, 0] = L2 at hrow2 ⊢
  have hl2 : L2.length = 4 := by rw [← hL2, List.length_append, wordsL_len]; rfl
  have hwd := pwords_any w1.heap.size (.slice a2 L2.length c2) L2 4 w2.heap.size [0, 0, 0] (by omega) (by omega) (by omega) (by simp) (w2.alloc (.cells #[.int .u64 (0 : Nat), .int .u64 (0 : Nat), .int .u64 (0 : Nat)] 33))
    (by simp; omega) (hrow2.alloc _) (u64_3 w2 _ _ _ (by omega) (by omega) (by omega) _) (fun b hb => by have := ownBlock_lt hrow2 b hb; omega) (by simp)
  rw [hl2] at hwd
  replace hwd := hide hwd
  replace hrow2 := hide hrow2
  have hlt3 := lt_of_block hb1.out
  have hb2 := hide ((heap_alloc_old hlt3 (.cells #[.int .u64 (0 : Nat), .int .u64 (0 : Nat), .int .u64 (0 : Nat)] 33)).trans hb1.out)
  have hm02 := hide (hm01.out.alloc (.cells #[.int .u64 (0 : Nat), .int .u64 (0 : Nat), .int .u64 (0 : Nat)] 33))
  replace hL2 := hide hL2
  go_wp2_with fail
  refine hwd.out.mono ?_
  rintro e w3 ⟨v3, rfl, hrow3, hm3⟩
  replace hb2 := hide (hm3.heap hb2.out (by show ¬ w1.heap.size ≤ _; omega))
  have hsz4 := hm3.size
  rw [World.size_alloc] at hsz4
  replace hm02 := hide (hm02.out.over hm3 (by omega))
  obtain ⟨a3, c3, rfl⟩ := own_value hrow3
  clear k6 k7 k8 hb1 hm3 hwd hm01 hrow2
  have k9 := cell_of_block hb2.out 9 rfl
  have k10 := cell_of_block hb2.out 10 rfl
  have k11 := cell_of_block hb2.out 11 rfl
  have k12 := cell_of_block hb2.out 12 rfl
  generalize hL3 : L2 ++ wordsL 4 [0, 0, 0] = L3 at hrow3 ⊢
  have hl3 : L3.length = 16 := by rw [← hL3, List.length_append, wordsL_len, hl2]; rfl
  have hwd := pwords_any w1.heap.size (.slice a3 L3.length c3) L3 8 w3.heap.size [0, o, r, x] (by omega) (by omega) (by omega) (by simp) (w3.alloc (.cells #[.int .u64 (0 : Nat), .int .u64 (o : Nat), .int .u64 (r : Nat), .int .u64 (x : Nat)] 33))
    (by simp; omega) (hrow3.alloc _) (u64_4 w3 _ _ _ _ (by omega) ho hr hx _) (fun b hb => by have := ownBlock_lt hrow3 b hb; omega) (by simp)
  rw [hl3] at hwd
  replace hwd := hide hwd
  replace hrow3 := hide hrow3
  have hm03 := hide (hm02.out.alloc (.cells #[.int .u64 (0 : Nat), .int .u64 (o : Nat), .int .u64 (r : Nat), .int .u64 (x : Nat)] 33))
  replace hL3 := hide hL3
  go_wp2_with fail
  refine hwd.out.mono ?_
  rintro e w4 ⟨v4, rfl, hrow4, hm4⟩
  replace hm03 := hide (hm03.out.over hm4 (by omega))
  obtain ⟨a4, c4, rfl⟩ := own_value hrow4
  have hbytes : L3 ++ wordsL 8 [0, o, r, x] = PktS.bytes ⟨0, 4, m, s, 0, 0, 0, 0, 0, 0, o, r, x⟩ := by
    rw [← hL3.out, ← hL2.out]
    have h1 : wordsL 1 [32 + m, s, 0, 0] = [32 + m, s, 0, 0] := by
      simp [wordsL, be]
      omega
    rw [h1]
    simp [PktS.bytes, wordsL]
  rw [hbytes] at hrow4
  have hlen : (PktS.bytes ⟨0, 4, m, s, 0, 0, 0, 0, 0, 0, o, r, x⟩).length = 48 := by rw [← hbytes, List.length_append, wordsL_len, hl3]; rfl
  rw [hlen] at hrow4
  have hres := hide (ownsRow_le hrow4 (show w.heap.size ≤ w1.heap.size by omega))
  clear hrow4 k9 k10 k11 k12
  rw [hbytes, hlen]
  go_wp2_with fail
  go_ret2
  exact ⟨_, rfl, hres.out, hm03.out⟩
/-- New bytes, of a call's own. -/
def BytesOut (l : List Nat) (w : World) (e : Ending) (w' : World) : Prop :=
  ∃ v, e = .returned v ∧ w'.ownsRow w.heap.size 5 1 v l.length (bcells l) ∧ Mod NoB w w'
theorem query_any (c : Nat) (hc : c < 18446744073709551616) (w : World) :
    Calls Tryz.prog 15 #[.int .u64 c] w (BytesOut (queryP c).bytes w) := by
  have hp := put_any 3 0 0 0 c (Or.inl rfl) (by omega) (by omega) (by omega) hc w
  have hl : (queryP c).bytes.length = 48 := by simp [queryP, PktS.bytes, be_len]
  unfold BytesOut
  rw [hl]
  replace hp := hide hp
  go_enter Tryz.func15, Tryz.ntmps15
  go_wp2_with fail
  refine hp.out.mono ?_
  rintro e w1 ⟨v, rfl, hrow, hm⟩
  obtain ⟨a, k, rfl⟩ := own_value hrow
  replace hrow := hide hrow
  replace hm := hide hm
  go_wp2_with fail
  go_ret
  exact ⟨_, rfl, hrow.out, hm.out⟩
theorem sgood_any (c r x : Nat) (hc : c < 18446744073709551616) (hr : r < 18446744073709551616) (hx : x < 18446744073709551616) (w : World) :
    Calls Tryz.prog 33 #[.int .u64 c, .int .u64 r, .int .u64 x] w (BytesOut (goodP c r x).bytes w) := by
  have hp := put_any 4 1 c r x (Or.inr rfl) (by omega) hc hr hx w
  have hl : (goodP c r x).bytes.length = 48 := by simp [goodP, PktS.bytes, be_len]
  unfold BytesOut
  rw [hl]
  replace hp := hide hp
  go_enter Tryz.func33, Tryz.ntmps33
  go_wp2_with fail
  refine hp.out.mono ?_
  rintro e w1 ⟨v, rfl, hrow, hm⟩
  obtain ⟨a, k, rfl⟩ := own_value hrow
  replace hrow := hide hrow
  replace hm := hide hm
  go_wp2_with fail
  go_ret
  exact ⟨_, rfl, hrow.out, hm.out⟩
end Go.Proofs.YtpjfiplejhbdfaaGreatDoor

namespace Go.Proofs.YtpjfiplejhbdfaaGreatDoor
open Go.RowKit

/-- Bytes that are read. -/
structure BytesAt (w : World) (b off : Nat) (l : List Nat) : Prop where
  cell : ∀ j, j < l.length → w.cell? ⟨b, off + j, none⟩ = some (.int .u8 ((l.getD j 0 : Nat) : Int))
  lt : ∀ c ∈ l, c < 256
theorem BytesAt.mod {S : Nat → Prop} {w w' : World} {b off : Nat} {l : List Nat} (h : BytesAt w b off l) (hm : Mod S w w') (hS : ¬ S b) : BytesAt w' b off l := ⟨fun j hj => hm.cellAt hS (h.cell j hj), h.lt⟩
theorem BytesAt.at {w : World} {b off : Nat} {l : List Nat} (h : BytesAt w b off l) (j : Nat) (hj : j < l.length) : l.getD j 0 < 256 := by
  have : l.getD j 0 = l[j] := by simp [List.getD, hj]
  rw [this]
  exact h.lt _ (List.getElem_mem hj)
theorem or_byte (x c : Nat) (hx : x < 72057594037927936) (hc : c < 256) : bits BinOp.or .u64 ((x : Int) * 256) (c : Int) = ((x * 256 + c : Nat) : Int) := by
  have h := u64_or_nat (x * 256) c (by omega) (by omega)
  rw [show x * 256 = 2 ^ 8 * x by omega, ← Nat.two_pow_add_eq_or_of_lt (by simpa using hc)] at h
  rw [show ((x : Int) * 256) = ((2 ^ 8 * x : Nat) : Int) by rw [Int.natCast_mul, Int.mul_comm]; rfl, h]
  omega
theorem wordTo_succ (b : List Nat) (at' i : Nat) (h : at' + i < b.length) : wordAt b at' (i + 1) = wordAt b at' i * 256 + b.getD (at' + i) 0 := by
  unfold wordAt
  rw [List.take_add_one, List.getElem?_drop]
  have : b[at' + i]? = some (b.getD (at' + i) 0) := by simp [List.getD, h]
  rw [this]
  unfold wordN
  rw [List.foldl_append]
  rfl
set_option maxRecDepth 100000 in
theorem word_any (b off cap : Nat) (l : List Nat) (at' n : Nat) (hn : at' + n ≤ l.length) (hn1 : 1 ≤ n) (hn8 : n ≤ 8) (hl : l.length ≤ cap) (hl2 : l.length ≤ 9223372036854775807) (hc : cap ≤ 9223372036854775807) (w : World) (h : BytesAt w b off l) :
    Calls Tryz.prog 154 #[.slice (some ⟨b, off, none⟩) l.length cap, .int .i64 at', .int .i64 n] w fun e w' => e = .returned (.int .u64 (wordAt l at' n : Int)) ∧ w' = w := by
  have hw0 : ((at' : Int) + n) ≤ cap := by omega
  have hne : ¬ cap = at' := by omega
  have hH := hide h
  clear h
  go_enter Tryz.func154, Tryz.ntmps154
  go_wp2_with fail
  go_loopw [7, 17] (fun vx vi wr => ∃ i, i ≤ n ∧ vi = .int .i64 (i : Int) ∧ vx = .int .u64 (wordAt l at' i : Int) ∧ wr = w) (fun _ vi _ => n - (intOf vi).toNat)
  case atStart => exact ⟨0, by omega, rfl, by simp [wordAt, wordN], rfl⟩
  case round =>
    obtain ⟨i, hin, rfl, rfl, rfl⟩ := hrel
    by_cases hlt : i < n
    · have hc1 := hH.out.cell (at' + i) (by omega)
      have hb1 := hH.out.at (at' + i) (by omega)
      rw [← Nat.add_assoc] at hc1
      have hsn := hide (wordTo_succ l at' i (by omega))
      have hxb : wordAt l at' i < 72057594037927936 := by
        have h1 := wordAt_lt l at' i hH.out.lt
        have h2 : 256 ^ i ≤ 256 ^ 7 := Nat.pow_le_pow_right (by decide) (by omega)
        omega
      generalize l.getD (at' + i) 0 = c at *
      have hor := or_byte (wordAt l at' i) c hxb hb1
      generalize wordAt l at' i = x at *
      have hi0 : (0 : Int) ≤ (i : Int) := by omega
      have hi1 : (i : Int) < (n : Int) := by omega
      have hwx : IntKind.u64.wrap ((x : Int) * 256) = (x : Int) * 256 := by rw [IntKind.wrap_u64]; omega
      have hwc : IntKind.u64.wrap (c : Int) = (c : Int) := by rw [IntKind.wrap_u64]; omega
      go_wp2_with fail
      go_roundw
      case rel => exact ⟨i + 1, by omega, by go_num, by rw [hsn.out, Int.natCast_add, Int.natCast_mul]; rfl, trivial⟩
      case measure => simp [intOf]; omega
    · obtain rfl : i = n := by omega
      go_wp2_with fail
      go_ret
      exact ⟨rfl, rfl⟩
theorem and7 (c : Nat) (hc : c < 256) : bits BinOp.and .u8 (c : Int) 7 = ((c % 8 : Nat) : Int) := by
  have : ∀ c : Fin 256, bits BinOp.and .u8 ((c.val : Nat) : Int) 7 = ((c.val % 8 : Nat) : Int) := by decide +kernel
  exact this ⟨c, hc⟩
theorem i8_wrap (c : Nat) (hc : c < 256) : IntKind.i8.wrap (c : Int) = i8of c := by
  have : ∀ c : Fin 256, IntKind.i8.wrap ((c.val : Nat) : Int) = i8of c.val := by decide +kernel
  exact this ⟨c, hc⟩
set_option maxRecDepth 100000 in
set_option maxHeartbeats 4000000 in
theorem get_any (b off cap : Nat) (l : List Nat) (h48 : 48 ≤ l.length) (hl : l.length ≤ cap) (hl2 : l.length ≤ 9223372036854775807) (hc : cap ≤ 9223372036854775807) (w : World) (h : BytesAt w b off l) :
    Calls Tryz.prog 127 #[.slice (some ⟨b, off, none⟩) l.length cap] w fun e w' => e = .returned (.tuple #[(pktOf l).val, .int .i64 0]) ∧ Mod NoB w w' := by
  obtain ⟨W, hW⟩ : ∃ W, w.alloc (.cells #[.int .u8 0, .int .u8 0, .int .u8 0, .int .u8 0, .int .i8 0, .int .i8 0, .int .u32 0, .int .u32 0, .int .u32 0, .int .u64 0, .int .u64 0, .int .u64 0, .int .u64 0] 119) = W := ⟨_, rfl⟩
  have hm0 : Mod NoB w W := hW ▸ (Mod.refl _ _).alloc _
  have hres : W.heap[w.heap.size]? = some (.cells #[.int .u8 0, .int .u8 0, .int .u8 0, .int .u8 0, .int .i8 0, .int .i8 0, .int .u32 0, .int .u32 0, .int .u32 0, .int .u64 0, .int .u64 0, .int .u64 0, .int .u64 0] 119 (0, 0)) := hW ▸ heap_alloc_new _ _
  have hB := h.mod hm0 id
  have hB2 : BytesAt W.drew b off l := ⟨fun j hj => hB.cell j hj, hB.lt⟩
  have hwd := hide (fun at' n hn h1 h8 => word_any b off cap l at' n hn h1 h8 hl hl2 hc W.drew hB2)
  have c0 := hB2.cell 0 (by omega)
  have c1 := hB2.cell 1 (by omega)
  have c2 := hB2.cell 2 (by omega)
  have c3 := hB2.cell 3 (by omega)
  have b0 := hB.at 0 (by omega)
  have b1 := hB.at 1 (by omega)
  have b2 := hB.at 2 (by omega)
  have b3 := hB.at 3 (by omega)
  rw [Nat.add_zero] at c0
  have e0 : bits BinOp.and .u8 (((l.getD 0 0 : Nat) : Int) / 8) 7 = ((l.getD 0 0 / 8 % 8 : Nat) : Int) := and7 (l.getD 0 0 / 8) (by omega)
  have e1 := and7 (l.getD 0 0) b0
  have e2 := i8_wrap (l.getD 2 0) b2
  have e3 := i8_wrap (l.getD 3 0) b3
  have e4 : IntKind.u32.wrap (wordAt l 4 4 : Int) = (wordAt l 4 4 : Int) := by have := wordAt_lt l 4 4 h.lt; unfold IntKind.wrap; simp [IntKind.bits, IntKind.signed]; omega
  have e5 : IntKind.u32.wrap (wordAt l 8 4 : Int) = (wordAt l 8 4 : Int) := by have := wordAt_lt l 8 4 h.lt; unfold IntKind.wrap; simp [IntKind.bits, IntKind.signed]; omega
  have e6 : IntKind.u32.wrap (wordAt l 12 4 : Int) = (wordAt l 12 4 : Int) := by have := wordAt_lt l 12 4 h.lt; unfold IntKind.wrap; simp [IntKind.bits, IntKind.signed]; omega
  have hval : (pktOf l).val = pktV (((l.getD 0 0 : Nat) : Int) / 64) ((l.getD 0 0 / 8 % 8 : Nat) : Int) ((l.getD 0 0 % 8 : Nat) : Int) (l.getD 1 0 : Nat) (i8of (l.getD 2 0)) (i8of (l.getD 3 0)) (wordAt l 4 4 : Nat) (wordAt l 8 4 : Nat) (wordAt l 12 4 : Nat) (wordAt l 16 8 : Nat) (wordAt l 24 8 : Nat) (wordAt l 32 8 : Nat) (wordAt l 40 8 : Nat) := rfl
  rw [hval]
  have n1 : (1 : Int) < (l.length : Int) := by omega
  have n2 : (2 : Int) < (l.length : Int) := by omega
  have n3 : (3 : Int) < (l.length : Int) := by omega
  have l0 : 0 < l.length := by omega
  have l1 : 1 < l.length := by omega
  have l2 : 2 < l.length := by omega
  have l3 : 3 < l.length := by omega
  have g1 := hwd.out 4 4 (by omega) (by omega) (by omega)
  have g2 := hwd.out 8 4 (by omega) (by omega) (by omega)
  have g3 := hwd.out 12 4 (by omega) (by omega) (by omega)
  have g4 := hwd.out 16 8 (by omega) (by omega) (by omega)
  have g5 := hwd.out 24 8 (by omega) (by omega) (by omega)
  have g6 := hwd.out 32 8 (by omega) (by omega) (by omega)
  have g7 := hwd.out 40 8 (by omega) (by omega) (by omega)
  clear hval h hB hB2 hwd
  generalize l.getD 0 0 = y0 at *
  generalize l.getD 1 0 = y1 at *
  generalize l.getD 2 0 = y2 at *
  generalize l.getD 3 0 = y3 at *
  generalize i8of y2 = z2 at *
  generalize i8of y3 = z3 at *
  generalize wordAt l 4 4 = x1 at *
  generalize wordAt l 8 4 = x2 at *
  generalize wordAt l 12 4 = x3 at *
  generalize wordAt l 16 8 = x4 at *
  generalize wordAt l 24 8 = x5 at *
  generalize wordAt l 32 8 = x6 at *
  generalize wordAt l 40 8 = x7 at *
  replace g1 := hide g1
  replace g2 := hide g2
  replace g3 := hide g3
  replace g4 := hide g4
  replace g5 := hide g5
  replace g6 := hide g6
  replace g7 := hide g7
  generalize (y0 / 8 % 8 : Nat) = y8 at *
  generalize (y0 % 8 : Nat) = y9 at *
  replace hres := hide hres
  replace hm0 := hide hm0
  go_enter Tryz.func127, Tryz.ntmps127
  go_wp2_with fail
  go_still_tail 42, (by kernel_rfl)
  still_call g1.out
  repeat still_step
  still_call g2.out
  repeat still_step
  still_call g3.out
  repeat still_step
  still_call g4.out
  repeat still_step
  still_call g5.out
  repeat still_step
  still_call g6.out
  repeat still_step
  still_call g7.out
  repeat still_step
  refine wpStill_nil ?_
  change wpList _ _ _ _ _ W.drew
  replace hm0 := hide hm0.out.drew
  have hres2 : W.drew.heap[w.heap.size]? = some (.cells #[.int .u8 0, .int .u8 0, .int .u8 0, .int .u8 0, .int .i8 0, .int .i8 0, .int .u32 0, .int .u32 0, .int .u32 0, .int .u64 0, .int .u64 0, .int .u64 0, .int .u64 0] 119 (0, 0)) := hres.out
  clear hres c0 c1 c2 c3 hW g1 g2 g3 g4 g5 g6 g7
  generalize W.drew = w3 at *
  have k0 := cell_of_block hres2 0 rfl
  have q0 := frozen_of_block hres2 0
  have k1 := cell_of_block hres2 1 rfl
  have q1 := frozen_of_block hres2 1
  have k2 := cell_of_block hres2 2 rfl
  have q2 := frozen_of_block hres2 2
  have k3 := cell_of_block hres2 3 rfl
  have q3 := frozen_of_block hres2 3
  have k4 := cell_of_block hres2 4 rfl
  have q4 := frozen_of_block hres2 4
  have k5 := cell_of_block hres2 5 rfl
  have q5 := frozen_of_block hres2 5
  have k6 := cell_of_block hres2 6 rfl
  have q6 := frozen_of_block hres2 6
  have k7 := cell_of_block hres2 7 rfl
  have q7 := frozen_of_block hres2 7
  have k8 := cell_of_block hres2 8 rfl
  have q8 := frozen_of_block hres2 8
  have k9 := cell_of_block hres2 9 rfl
  have q9 := frozen_of_block hres2 9
  have k10 := cell_of_block hres2 10 rfl
  have q10 := frozen_of_block hres2 10
  have k11 := cell_of_block hres2 11 rfl
  have q11 := frozen_of_block hres2 11
  have k12 := cell_of_block hres2 12 rfl
  have q12 := frozen_of_block hres2 12
  have hset := hide (heap_setCell_eq (heap_setCell_eq (heap_setCell_eq (heap_setCell_eq (heap_setCell_eq (heap_setCell_eq (heap_setCell_eq (heap_setCell_eq (heap_setCell_eq (heap_setCell_eq (heap_setCell_eq (heap_setCell_eq (heap_setCell_eq (hres2) (o := 0) (.int .u8 ((y0 : Int) / 64))) (o := 1) (.int .u8 (y8 : Int))) (o := 2) (.int .u8 (y9 : Int))) (o := 3) (.int .u8 (y1 : Int))) (o := 4) (.int .i8 z2)) (o := 5) (.int .i8 z3)) (o := 6) (.int .u32 (x1 : Int))) (o := 7) (.int .u32 (x2 : Int))) (o := 8) (.int .u32 (x3 : Int))) (o := 9) (.int .u64 (x4 : Int))) (o := 10) (.int .u64 (x5 : Int))) (o := 11) (.int .u64 (x6 : Int))) (o := 12) (.int .u64 (x7 : Int)))
  have hmf : Mod NoB w (((((((((((((w3.setCell ⟨w.heap.size, 0, none⟩ (.int .u8 ((y0 : Int) / 64))).setCell ⟨w.heap.size, 1, none⟩ (.int .u8 (y8 : Int))).setCell ⟨w.heap.size, 2, none⟩ (.int .u8 (y9 : Int))).setCell ⟨w.heap.size, 3, none⟩ (.int .u8 (y1 : Int))).setCell ⟨w.heap.size, 4, none⟩ (.int .i8 z2)).setCell ⟨w.heap.size, 5, none⟩ (.int .i8 z3)).setCell ⟨w.heap.size, 6, none⟩ (.int .u32 (x1 : Int))).setCell ⟨w.heap.size, 7, none⟩ (.int .u32 (x2 : Int))).setCell ⟨w.heap.size, 8, none⟩ (.int .u32 (x3 : Int))).setCell ⟨w.heap.size, 9, none⟩ (.int .u64 (x4 : Int))).setCell ⟨w.heap.size, 10, none⟩ (.int .u64 (x5 : Int))).setCell ⟨w.heap.size, 11, none⟩ (.int .u64 (x6 : Int))).setCell ⟨w.heap.size, 12, none⟩ (.int .u64 (x7 : Int))) :=
    (((((((((((((hm0.out).setCell (Or.inr (Nat.le_refl _)) _).setCell (Or.inr (Nat.le_refl _)) _).setCell (Or.inr (Nat.le_refl _)) _).setCell (Or.inr (Nat.le_refl _)) _).setCell (Or.inr (Nat.le_refl _)) _).setCell (Or.inr (Nat.le_refl _)) _).setCell (Or.inr (Nat.le_refl _)) _).setCell (Or.inr (Nat.le_refl _)) _).setCell (Or.inr (Nat.le_refl _)) _).setCell (Or.inr (Nat.le_refl _)) _).setCell (Or.inr (Nat.le_refl _)) _).setCell (Or.inr (Nat.le_refl _)) _).setCell (Or.inr (Nat.le_refl _)) _
  replace hmf := hide hmf
  replace hres2 := hide hres2
  go_wp2_with fail
  replace hset := hset.out
  generalize (((((((((((((w3.setCell ⟨w.heap.size, 0, none⟩ (.int .u8 ((y0 : Int) / 64))).setCell ⟨w.heap.size, 1, none⟩ (.int .u8 (y8 : Int))).setCell ⟨w.heap.size, 2, none⟩ (.int .u8 (y9 : Int))).setCell ⟨w.heap.size, 3, none⟩ (.int .u8 (y1 : Int))).setCell ⟨w.heap.size, 4, none⟩ (.int .i8 z2)).setCell ⟨w.heap.size, 5, none⟩ (.int .i8 z3)).setCell ⟨w.heap.size, 6, none⟩ (.int .u32 (x1 : Int))).setCell ⟨w.heap.size, 7, none⟩ (.int .u32 (x2 : Int))).setCell ⟨w.heap.size, 8, none⟩ (.int .u32 (x3 : Int))).setCell ⟨w.heap.size, 9, none⟩ (.int .u64 (x4 : Int))).setCell ⟨w.heap.size, 10, none⟩ (.int .u64 (x5 : Int))).setCell ⟨w.heap.size, 11, none⟩ (.int .u64 (x6 : Int))).setCell ⟨w.heap.size, 12, none⟩ (.int .u64 (x7 : Int))) = w4 at *
  have d0 := cell_of_block hset 0 (v := .int .u8 ((y0 : Int) / 64)) (by simp)
  have d1 := cell_of_block hset 1 (v := .int .u8 (y8 : Int)) (by simp)
  have d2 := cell_of_block hset 2 (v := .int .u8 (y9 : Int)) (by simp)
  have d3 := cell_of_block hset 3 (v := .int .u8 (y1 : Int)) (by simp)
  have d4 := cell_of_block hset 4 (v := .int .i8 z2) (by simp)
  have d5 := cell_of_block hset 5 (v := .int .i8 z3) (by simp)
  have d6 := cell_of_block hset 6 (v := .int .u32 (x1 : Int)) (by simp)
  have d7 := cell_of_block hset 7 (v := .int .u32 (x2 : Int)) (by simp)
  have d8 := cell_of_block hset 8 (v := .int .u32 (x3 : Int)) (by simp)
  have d9 := cell_of_block hset 9 (v := .int .u64 (x4 : Int)) (by simp)
  have d10 := cell_of_block hset 10 (v := .int .u64 (x5 : Int)) (by simp)
  have d11 := cell_of_block hset 11 (v := .int .u64 (x6 : Int)) (by simp)
  have d12 := cell_of_block hset 12 (v := .int .u64 (x7 : Int)) (by simp)
  exact bodyPost_ret (v := .tuple #[.agg #[.int .u8 ((y0 : Int) / 64), .int .u8 (y8 : Int), .int .u8 (y9 : Int), .int .u8 (y1 : Int), .int .i8 z2, .int .i8 z3, .int .u32 (x1 : Int), .int .u32 (x2 : Int), .int .u32 (x3 : Int), .int .u64 (x4 : Int), .int .u64 (x5 : Int), .int .u64 (x6 : Int), .int .u64 (x7 : Int)], .int .i64 0]) (by simp [results, Tryz.results127, go_sem, d0, d1, d2, d3, d4, d5, d6, d7, d8, d9, d10, d11, d12]) rfl ⟨rfl, hmf.out⟩
end Go.Proofs.YtpjfiplejhbdfaaGreatDoor

