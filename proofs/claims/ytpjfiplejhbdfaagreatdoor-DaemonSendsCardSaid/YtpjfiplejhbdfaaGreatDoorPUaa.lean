/- Words shared by all proofs of this seat: a frame relation on worlds ('Mod'), and the step from a walk to a given law's statement. Bits of whole numbers: plain Lean. Bits and sums: sat.Mid; plain Lean. a * b / c, floored and clamped, by sizes: plain Lean. Stamps' numbers: plain Lean. A clock that is slewed: plain Lean. Package sat: sums that stop, halves, ends (contracts). -/
import Derived.Test.YtpjfiplejhbdfaaGreatDoorRows
import Derived.WalkKit
import Derived.ProofKit
import Derived.OpenShut
import Derived.Carry
import Derived.SizedLaws
import Derived.Deep.Draws
import Derived.Lib.Hide
import Derived.WalkLawsBesides
import Derived.WalkSpells
import Derived.Outline
import Derived.Deep.DeepFit
import Derived.Deep.QuietTactic
import Derived.BigQuiet
import Derived.Deep.RegionWith
import Derived.Deep.RegionHeld3
namespace Go.Proofs.YtpjfiplejhbdfaaGreatDoor
open Go.ChangeShapes Go.WideShapes Go.ChangeAt Go.RowKit

/-- An int64's range. -/
abbrev I64 (a : Int) : Prop := -9223372036854775808 ≤ a ∧ a ≤ 9223372036854775807

theorem i64_of_wf {a : Int} (h : (Lit.int .i64 a).wf = true) : I64 a := bounds_i64 h

theorem int_ret {k : IntKind} {a b : Int} (h : a = b) : Ending.returned (.int k a) = .returned (.int k b) := by rw [h]
theorem bool_ret {a b : Bool} (h : a = b) : Ending.returned (.bool a) = .returned (.bool b) := by rw [h]

/-- w' is w, but for the blocks of S and for new blocks. -/
structure Mod (S : Nat → Prop) (w w' : World) : Prop where
  os : w'.os = w.os
  tape : w'.tape = w.tape
  output : w'.output = w.output
  size : w.heap.size ≤ w'.heap.size
  block : ∀ k, k < w.heap.size → ¬ S k → w'.heap[k]? = w.heap[k]?

/-- A fact that the walk shall not use as a rule; '.out' gives it back. -/
theorem hide {p : Prop} (h : p) : Hid p := h

abbrev NoB : Nat → Prop := fun _ => False
abbrev at0 (b : Nat) : Value := .pointer (some ⟨b, 0, none⟩)

theorem Mod.refl (S : Nat → Prop) (w : World) : Mod S w w := ⟨rfl, rfl, rfl, Nat.le_refl _, fun _ _ _ => rfl⟩

theorem Mod.trans {S : Nat → Prop} {a b c : World} (h : Mod S a b) (k : Mod S b c) : Mod S a c :=
  ⟨k.os.trans h.os, k.tape.trans h.tape, k.output.trans h.output, Nat.le_trans h.size k.size,
   fun i hi hn => (k.block i (Nat.lt_of_lt_of_le hi h.size) hn).trans (h.block i hi hn)⟩

theorem Mod.mono {S T : Nat → Prop} {a b : World} (h : Mod S a b) (hs : ∀ k, k < a.heap.size → S k → T k) : Mod T a b :=
  ⟨h.os, h.tape, h.output, h.size, fun k hk hn => h.block k hk fun s => hn (hs k hk s)⟩

theorem Mod.drew {S : Nat → Prop} {a w : World} (h : Mod S a w) : Mod S a w.drew := ⟨h.os, h.tape, h.output, h.size, h.block⟩

theorem Mod.drewN {S : Nat → Prop} {a w : World} (n : Nat) (h : Mod S a w) : Mod S a (w.drewN n) := ⟨h.os, h.tape, h.output, h.size, h.block⟩

theorem Mod.alloc {S : Nat → Prop} {a w : World} (h : Mod S a w) (o : Obj) : Mod S a (w.alloc o) :=
  ⟨h.os, h.tape, h.output, Nat.le_trans h.size (by show _ ≤ (w.heap.push o).size; simp), fun k hk hn => (Below.heap_alloc _ _ _ (Nat.lt_of_lt_of_le hk h.size)).trans (h.block k hk hn)⟩

/-- A store into a block of S, or into a new one. -/
theorem Mod.setCell {S : Nat → Prop} {a w : World} (h : Mod S a w) {p : Addr} (hp : S p.block ∨ a.heap.size ≤ p.block) (u : Value) : Mod S a (w.setCell p u) :=
  ⟨h.os, h.tape, h.output, by simpa [World.setCell] using h.size, fun k hk hn => by
    refine (Below.heap_setCell _ _ _ _ ?_).trans (h.block k hk hn)
    rintro rfl
    rcases hp with hp | hp
    · exact hn hp
    · omega⟩

theorem Mod.set1 {b : Nat} {a w : World} (h : Mod (· = b) a w) (o : Nat) (u : Value) : Mod (· = b) a (w.setCell ⟨b, o, none⟩ u) := h.setCell (Or.inl rfl) u

theorem Mod.heap {S : Nat → Prop} {w w' : World} (h : Mod S w w') {k : Nat} {o : Obj} (ho : w.heap[k]? = some o) (hn : ¬ S k) : w'.heap[k]? = some o := by
  have hk : k < w.heap.size := by
    rcases Nat.lt_or_ge k w.heap.size with h | h
    · exact h
    · rw [Array.getElem?_eq_none h] at ho; cases ho
  exact (h.block k hk hn).trans ho

/-- A call's own frame, inside a longer one: what the call may write is new, or may be written. -/
theorem Mod.into {S T : Nat → Prop} {a w w' : World} (h : Mod S a w) (k : Mod T w w') (ht : ∀ b, T b → S b ∨ a.heap.size ≤ b) : Mod S a w' :=
  ⟨k.os.trans h.os, k.tape.trans h.tape, k.output.trans h.output, Nat.le_trans h.size k.size, fun i hi hn => (k.block i (Nat.lt_of_lt_of_le hi h.size) fun t => (ht i t).elim hn fun x => by omega).trans (h.block i hi hn)⟩

theorem Mod.below {w w' : World} (h : Mod NoB w w') : Below w.heap.size w w' := ⟨h.os, h.tape, h.output, h.size, fun k hk => h.block k hk id⟩

theorem Below.mod {w w' : World} (h : Below w.heap.size w w') : Mod NoB w w' := ⟨h.os, h.tape, h.output, h.size, fun k hk _ => h.block k hk⟩

theorem lt_of_block {w : World} {k : Nat} {o : Obj} (h : w.heap[k]? = some o) : k < w.heap.size := by
  rcases Nat.lt_or_ge k w.heap.size with hk | hk
  · exact hk
  · rw [Array.getElem?_eq_none hk] at h; cases h

/-- A block known whole: its cells. -/
theorem cell_of_block {w : World} {b : Nat} {c : Array Value} {t : TypeId} {fr : Nat × Nat} (h : w.heap[b]? = some (.cells c t fr)) (o : Nat) {v : Value} (hv : c[o]? = some v) :
    w.cell? ⟨b, o, none⟩ = some v := by
  simp [World.cell?, h, hv]

theorem frozen_of_block {w : World} {b : Nat} {c : Array Value} {t : TypeId} (h : w.heap[b]? = some (.cells c t (0, 0))) (o : Nat) :
    w.frozen? ⟨b, o, none⟩ = false := by
  simp [World.frozen?, h]

theorem heap_setCell_eq {w : World} {b o : Nat} {c : Array Value} {t : TypeId} {fr : Nat × Nat} (h : w.heap[b]? = some (.cells c t fr)) (v : Value) :
    (w.setCell ⟨b, o, none⟩ v).heap[b]? = some (.cells (c.setIfInBounds o v) t fr) := by
  simp [World.setCell, Array.getElem?_modify, h]

theorem heap_setCell_ne {w : World} {b : Nat} {a : Addr} (hb : b ≠ a.block) (v : Value) : (w.setCell a v).heap[b]? = w.heap[b]? := by
  simp only [World.setCell, Array.getElem?_modify]
  rw [if_neg (by omega)]

theorem heap_alloc_new (w : World) (o : Obj) : (w.alloc o).heap[w.heap.size]? = some o := by
  show (w.heap.push o)[w.heap.size]? = _
  simp

theorem heap_alloc_old {w : World} {k : Nat} (hk : k < w.heap.size) (o : Obj) : (w.alloc o).heap[k]? = w.heap[k]? := Below.heap_alloc _ _ _ hk

/-- All arguments read behind the call as ahead of it. -/
theorem trodAll_below {H : Type} {enc : TypeId × Value → H} {P : Program} (hl : laidOutB P = true) {W W' : World} (hb : Below W.heap.size W W') :
    ∀ (ts : List TypeId) (vs : List Value) (ds : List (DataW H)) (ps : List MemPlace), (∀ t ∈ ts, P.readableRec t = true ∧ t < P.types.size) →
      DataW.TrodAll enc P W 0 (fun _ => true) true ts vs ds ps → (∀ x ∈ ps, x.block < W.heap.size) →
      DataW.TrodAll enc P W' 0 (fun b => decide (b < W.heap.size)) true ts vs ds ps
  | [], vs, ds, ps, _, h, _ => by
    obtain ⟨rfl, rfl, rfl⟩ := trodAll_nil h
    exact trodAll_mk0
  | t :: ts, vs, ds, ps, ht, h, hlt => by
    obtain ⟨v, vs1, d, ds1, p, q, rfl, rfl, rfl, h1, h2⟩ := trodAll_cons h
    exact trodAll_cons_mk (Below.trod hl (ht t (by simp)).1 (ht t (by simp)).2 h1 hb fun x hx => hlt x (by simp [hx]))
      (trodAll_below hl hb ts vs1 ds1 q (fun u hu => ht u (by simp [hu])) h2 fun x hx => hlt x (by simp [hx]))

end Go.Proofs.YtpjfiplejhbdfaaGreatDoor

namespace Go.Proofs.YtpjfiplejhbdfaaGreatDoor
open Go.RowKit

/-- The bits of an int64. -/
abbrev bv (a : Int) : BitVec 64 := BitVec.ofInt 64 a
/-- What bits are as an int64. -/
def iv (r : BitVec 64) : Int := IntKind.i64.wrap (r.toNat : Int)

theorem wrap_def (a : Int) : IntKind.i64.wrap a = if (9223372036854775808 : Int) ≤ a % 18446744073709551616 then a % 18446744073709551616 - 18446744073709551616 else a % 18446744073709551616 := by
  unfold IntKind.wrap
  simp [IntKind.bits, IntKind.signed]
theorem iv_eq (r : BitVec 64) : iv r = r.toInt := by
  unfold iv
  have h := r.isLt
  rw [BitVec.toInt_eq_toNat_cond, wrap_def]
  split <;> split <;> omega
theorem bv_iv (r : BitVec 64) : bv (iv r) = r := by rw [iv_eq]; exact BitVec.ofInt_toInt
theorem iv_bv {a : Int} (h : I64 a) : iv (bv a) = a := by
  rw [iv_eq, BitVec.toInt_ofInt]
  have h1 := h.1
  have h2 := h.2
  rw [Int.bmod_def]
  split <;> omega
theorem iv_neg (r : BitVec 64) : decide (iv r < 0) = r.msb := by
  rw [iv_eq, BitVec.msb_eq_toInt]
theorem msb_bv {a : Int} (h : I64 a) : (bv a).msb = decide (a < 0) := by
  rw [← iv_neg, iv_bv h]
theorem neg_and (x y : BitVec 64) : decide (iv (x &&& y) < 0) = (x.msb && y.msb) := by rw [iv_neg, BitVec.msb_and]
theorem neg_xor {a b : Int} (ha : I64 a) (hb : I64 b) : (bv a ^^^ bv b).msb = (decide (a < 0) ^^ decide (b < 0)) := by rw [BitVec.msb_xor, msb_bv ha, msb_bv hb]

theorem wrap_in {a : Int} (h : I64 a) : IntKind.i64.wrap a = a := by
  rw [wrap_def]
  have h1 := h.1
  have h2 := h.2
  split <;> omega
theorem wrap_range (a : Int) : I64 (IntKind.i64.wrap a) := by
  rw [wrap_def]
  constructor <;> split <;> omega
theorem wrap_cases (a : Int) (h : -18446744073709551616 ≤ a) (h2 : a ≤ 18446744073709551615) : IntKind.i64.wrap a = if a < -9223372036854775808 then a + 18446744073709551616 else if 9223372036854775807 < a then a - 18446744073709551616 else a := by
  rw [wrap_def]
  split <;> split <;> (try split) <;> omega

/-- Sums that stop at the ends. -/
def clamp64 (a : Int) : Int := if a < -9223372036854775808 then -9223372036854775808 else if 9223372036854775807 < a then 9223372036854775807 else a
def satSub (a b : Int) : Int := clamp64 (a - b)
theorem clamp_range (a : Int) : I64 (clamp64 a) := by unfold clamp64; constructor <;> split <;> (try split) <;> omega
theorem sub_over {a b : Int} (ha : I64 a) (hb : I64 b) : decide (iv ((bv a ^^^ bv b) &&& (bv a ^^^ bv (IntKind.i64.wrap (a - b)))) < 0) = decide (a - b < -9223372036854775808 ∨ 9223372036854775807 < a - b) := by
  have hw := wrap_range (a - b)
  rw [neg_and, neg_xor ha hw, neg_xor ha hb, wrap_cases (a - b) (by have := ha.1; have := hb.2; omega) (by have := ha.2; have := hb.1; omega)]
  obtain ⟨a0, a1⟩ := ha
  obtain ⟨b0, b1⟩ := hb
  rw [Bool.eq_iff_iff]
  simp only [Bool.and_eq_true, bne_iff_ne, ne_eq, decide_eq_decide, decide_eq_true_eq]
  split
  · omega
  · split <;> omega
end Go.Proofs.YtpjfiplejhbdfaaGreatDoor

namespace Go.Proofs.YtpjfiplejhbdfaaGreatDoor
theorem and_xor : ∀ a b : Nat, 2 * (a &&& b) + (a ^^^ b) = a + b := by
  intro a
  induction a using Nat.strongRecOn with
  | _ a ih =>
    intro b
    by_cases h : a = 0
    · subst h; simp
    · have h1 := ih (a / 2) (by omega) (b / 2)
      have e1 : (a &&& b) / 2 = a / 2 &&& b / 2 := Nat.and_div_two
      have e2 : (a ^^^ b) / 2 = a / 2 ^^^ b / 2 := Nat.xor_div_two
      have m1 : (a &&& b) % 2 = (a % 2) &&& (b % 2) := Nat.and_mod_two_pow (n := 1)
      have m2 : (a ^^^ b) % 2 = (a % 2) ^^^ (b % 2) := Nat.xor_mod_two_pow (n := 1)
      rw [← e1, ← e2] at h1
      have ha := Nat.mod_two_eq_zero_or_one a
      have hb := Nat.mod_two_eq_zero_or_one b
      rcases ha with ha | ha <;> rcases hb with hb | hb <;> rw [ha, hb] at m1 m2 <;> simp only [Nat.zero_and, Nat.and_zero, Nat.and_self, Nat.xor_zero, Nat.zero_xor, Nat.xor_self] at m1 m2 <;> omega
theorem iv_nat (r : BitVec 64) : iv r = if r.msb then (r.toNat : Int) - 18446744073709551616 else (r.toNat : Int) := by
  rw [iv_eq, BitVec.toInt_eq_msb_cond]
  rfl
theorem iv_and_xor (x y : BitVec 64) : 2 * iv (x &&& y) + iv (x ^^^ y) = iv x + iv y := by
  have h := and_xor x.toNat y.toNat
  rw [iv_nat, iv_nat, iv_nat, iv_nat, BitVec.msb_and, BitVec.msb_xor, BitVec.toNat_and, BitVec.toNat_xor]
  cases x.msb <;> cases y.msb <;> simp <;> omega
/-- sat.Mid. -/
theorem mid_eq {a b : Int} (ha : I64 a) (hb : I64 b) : IntKind.i64.wrap (iv (bv a &&& bv b) + Int.fdiv (iv (bv a ^^^ bv b)) 2) = Int.fdiv (a + b) 2 := by
  have h := iv_and_xor (bv a) (bv b)
  rw [iv_bv ha, iv_bv hb] at h
  generalize iv (bv a &&& bv b) = x at h
  generalize iv (bv a ^^^ bv b) = y at h
  rw [Int.fdiv_eq_ediv_of_nonneg _ (by omega), Int.fdiv_eq_ediv_of_nonneg _ (by omega)]
  unfold I64 at ha hb
  have e : x + y / 2 = (a + b) / 2 := by omega
  rw [e]
  refine wrap_in ?_
  unfold I64
  omega
/-- sat.end. -/
theorem end_eq {a : Int} (ha : I64 a) : iv (bv 9223372036854775807 ^^^ bv (Int.fdiv a 9223372036854775808)) = if a < 0 then -9223372036854775808 else 9223372036854775807 := by
  unfold I64 at ha
  rw [Int.fdiv_eq_ediv_of_nonneg _ (by omega)]
  split
  · rw [show a / 9223372036854775808 = -1 by omega]
    decide +kernel
  · rw [show a / 9223372036854775808 = 0 by omega]
    decide +kernel
theorem half_eq (a : Int) : Int.fdiv a 2 = a / 2 := Int.fdiv_eq_ediv_of_nonneg _ (by omega)
end Go.Proofs.YtpjfiplejhbdfaaGreatDoor

namespace Go.Proofs.YtpjfiplejhbdfaaGreatDoor

theorem fdiv_neg (p c : Nat) (hc : 0 < c) : Int.fdiv (-(p : Int)) c = if p % c = 0 then -((p / c : Nat) : Int) else -((p / c : Nat) : Int) - 1 := by
  rw [Int.fdiv_eq_ediv_of_nonneg _ (by omega)]
  have h := Nat.div_add_mod p c
  have hm := Nat.mod_lt p hc
  generalize p / c = q at *
  generalize p % c = r at *
  subst h
  split
  · rename_i h0
    subst h0
    rw [Nat.add_zero, show (-((c * q : Nat) : Int)) = (c : Int) * (-(q : Int)) by rw [Int.natCast_mul, Int.mul_neg]]
    exact Int.mul_ediv_cancel_left _ (by omega)
  · rename_i h0
    have e : (-((c * q + r : Nat) : Int)) = ((c : Int) - r) + (c : Int) * (-(q : Int) - 1) := by
      rw [Int.natCast_add, Int.natCast_mul, Int.mul_sub, Int.mul_neg, Int.mul_one]
      omega
    rw [e, Int.add_mul_ediv_left _ _ (by omega), Int.ediv_eq_zero_of_lt (by omega) (by omega)]
    omega
/-- sat.MulDiv's answer, where b and c are as they may be. -/
def mulDiv (a b c : Int) : Int := clamp64 (Int.fdiv (a * b) c)
theorem mulDiv_neg {a b c : Nat} (hc : 0 < c) : mulDiv (-(a : Int)) b c = if 9223372036854775808 ≤ a * b / c then -9223372036854775808 else if a * b % c = 0 then -((a * b / c : Nat) : Int) else -((a * b / c : Nat) : Int) - 1 := by
  unfold mulDiv
  rw [Int.neg_mul, ← Int.natCast_mul, fdiv_neg _ _ hc]
  unfold clamp64
  generalize a * b / c = q
  generalize a * b % c = r
  by_cases h : 9223372036854775808 ≤ q
  · rw [if_pos h]
    split <;> split <;> (try split) <;> omega
  · rw [if_neg h]
    split <;> (rw [if_neg (by omega), if_neg (by omega)])
end Go.Proofs.YtpjfiplejhbdfaaGreatDoor

namespace Go.Proofs.YtpjfiplejhbdfaaGreatDoor

/-- stamp.From. -/
def fromNs (a : Int) : Nat := (a / 1000000000 % 4294967296).toNat * 4294967296 + (a % 1000000000).toNat * 4294967296 / 1000000000
theorem fromNs_lt (a : Int) : fromNs a < 18446744073709551616 := by
  unfold fromNs
  omega
/-- stamp.Diff. -/
def diffS (a b : Nat) : Int := mulDiv (IntKind.i64.wrap ((a : Int) - b)) 1000000000 4294967296
theorem diffS_same (a : Nat) : diffS a a = 0 := by
  unfold diffS
  rw [Int.sub_self]
  decide +kernel
/-- sample.Make. -/
def makeS (sent came : Int) (recv xmit : Nat) : Int × Int :=
  (Int.fdiv (diffS recv (fromNs sent) + diffS xmit (fromNs came)) 2, max 0 (satSub (satSub came sent) (diffS xmit recv)))
theorem mulDiv_range (a b c : Int) : I64 (mulDiv a b c) := clamp_range _
theorem diffS_range (a b : Nat) : I64 (diffS a b) := mulDiv_range _ _ _
end Go.Proofs.YtpjfiplejhbdfaaGreatDoor

namespace Go.Proofs.YtpjfiplejhbdfaaGreatDoor

def clampTo (a lo hi : Int) : Int := if a < lo then lo else if hi < a then hi else a
structure ClockS where
  h : Int
  c : Int
  left : Int
  all : Int
  rate : Int
def roomOf (k : ClockS) (h : Int) : Int := mulDiv (h - k.h) k.rate 1000000
def stepOf (k : ClockS) (h : Int) : Int := clampTo k.left (-roomOf k h) (roomOf k h)
/-- slew's at. -/
def ClockS.at (k : ClockS) (h : Int) : ClockS := ⟨h, k.c + (h - k.h) + stepOf k h, k.left - stepOf k h, k.all + stepOf k h, k.rate⟩
def ClockS.adjust (k : ClockS) (h by' : Int) : ClockS := { k.at h with left := clampTo by' (-2305843009213693952) 2305843009213693952 }
/-- What keeps all of it in 64 bits. -/
structure ClockS.Ok (k : ClockS) : Prop where
  h0 : 0 ≤ k.h
  h1 : k.h ≤ 4611686018427387903
  c0 : -(2000 * 2305843009213693952 + 2001 * k.h) ≤ 2000 * k.c
  c1 : 2000 * k.c ≤ 2000 * 2305843009213693952 + 2001 * k.h
  l0 : -2305843009213693952 ≤ k.left
  l1 : k.left ≤ 2305843009213693952
  a0 : -k.h ≤ 2000 * k.all
  a1 : 2000 * k.all ≤ k.h
  r0 : 1 ≤ k.rate
  r1 : k.rate ≤ 500
theorem room_le {d r : Int} (h0 : 0 ≤ d) (h1 : d ≤ 4611686018427387903) (r0 : 1 ≤ r) (r1 : r ≤ 500) : 0 ≤ mulDiv d r 1000000 ∧ 2000 * mulDiv d r 1000000 ≤ d := by
  have hx0 : 0 ≤ d * r := Int.mul_nonneg h0 (by omega)
  have hx1 : d * r ≤ d * 500 := Int.mul_le_mul_of_nonneg_left r1 h0
  unfold mulDiv clamp64
  rw [Int.fdiv_eq_ediv_of_nonneg _ (by omega)]
  generalize d * r = x at *
  rw [if_neg (by omega), if_neg (by omega)]
  omega
theorem step_le {k : ClockS} (hk : k.Ok) {h : Int} (h0 : k.h ≤ h) (h1 : h ≤ 4611686018427387903) : 2000 * stepOf k h ≤ h - k.h ∧ -(h - k.h) ≤ 2000 * stepOf k h ∧ (0 ≤ k.left → 0 ≤ stepOf k h ∧ stepOf k h ≤ k.left) ∧ (k.left ≤ 0 → stepOf k h ≤ 0 ∧ k.left ≤ stepOf k h) := by
  have h00 := hk.h0
  have hr := room_le (d := h - k.h) (by omega) (by omega) hk.r0 hk.r1
  unfold stepOf roomOf clampTo
  generalize mulDiv (h - k.h) k.rate 1000000 = r at *
  refine ⟨?_, ?_, ?_, ?_⟩ <;> split <;> (try split) <;> omega
theorem ClockS.Ok.at {k : ClockS} (hk : k.Ok) {h : Int} (h0 : k.h ≤ h) (h1 : h ≤ 4611686018427387903) : (k.at h).Ok := by
  obtain ⟨a1, a2, a3, a4⟩ := step_le hk h0 h1
  obtain ⟨b1, b2, b3, b4, b5, b6, b7, b8, b9, b10⟩ := hk
  unfold ClockS.at
  generalize stepOf k h = s at *
  constructor <;> simp only [] <;> first | assumption | omega
theorem ClockS.Ok.adjust {k : ClockS} (hk : k.Ok) {h b : Int} (h0 : k.h ≤ h) (h1 : h ≤ 4611686018427387903) : (k.adjust h b).Ok := by
  obtain ⟨b1, b2, b3, b4, b5, b6, b7, b8, b9, b10⟩ := hk.at h0 h1
  unfold ClockS.adjust clampTo
  constructor <;> simp only [] <;> first | assumption | (split <;> (try split) <;> omega)
/-- In 64 bits. -/
theorem ClockS.Ok.fits {k : ClockS} (hk : k.Ok) : I64 k.h ∧ I64 k.c ∧ I64 k.left ∧ I64 k.all := by
  obtain ⟨b1, b2, b3, b4, b5, b6, b7, b8, b9, b10⟩ := hk
  unfold I64
  refine ⟨?_, ?_, ?_, ?_⟩ <;> omega
/-- Of two readings, the clock's times are as far apart, but for the rate. -/
theorem ClockS.Ok.apart {k : ClockS} (hk : k.Ok) {h : Int} (h0 : k.h ≤ h) (h1 : h ≤ 4611686018427387903) : (k.at h).c - k.c ≤ (h - k.h) + roomOf k h ∧ (h - k.h) - roomOf k h ≤ (k.at h).c - k.c := by
  have h00 := hk.h0
  have hr := room_le (d := h - k.h) (by omega) (by omega) hk.r0 hk.r1
  unfold ClockS.at stepOf roomOf clampTo
  generalize mulDiv (h - k.h) k.rate 1000000 = r at *
  simp only []
  constructor <;> split <;> (try split) <;> omega
end Go.Proofs.YtpjfiplejhbdfaaGreatDoor

namespace Go.Proofs.YtpjfiplejhbdfaaGreatDoor
open Go.RowKit

theorem between_any (a lo hi : Int) (w : World) :
    Calls Tryz.prog 182 #[.int .i64 a, .int .i64 lo, .int .i64 hi] w fun e w' => e = .returned (.int .i64 (clampTo a lo hi)) ∧ w = w' := by
  go_enter Tryz.func182, Tryz.ntmps182
  go_wp2
  all_goals
    go_ret
    refine ⟨int_ret ?_, rfl⟩
    unfold clampTo
    (repeat' split) <;> omega
theorem clamp_any (a lo hi : Int) (w : World) :
    Calls Tryz.prog 151 #[.int .i64 a, .int .i64 lo, .int .i64 hi] w fun e w' => e = .returned (.int .i64 (clampTo a lo hi)) ∧ w = w' := by
  go_enter Tryz.func151, Tryz.ntmps151
  go_wp2_with fail
  refine (between_any _ _ _ _).mono ?_
  rintro e w' ⟨rfl, rfl⟩
  go_wp2
  go_ret
  exact ⟨rfl, rfl⟩
theorem bits_xor_iv (a b : Int) : bits BinOp.xor .i64 a b = iv (bv a ^^^ bv b) := rfl
theorem bits_and_iv (a b : Int) : bits BinOp.and .i64 a b = iv (bv a &&& bv b) := rfl
theorem wrap64_eq (a : Int) : wrap64 a = IntKind.i64.wrap a := by rw [IntKind.wrap_i64]; unfold wrap64; rfl
theorem half_div (a : Int) : a / 2 = Int.fdiv a 2 := (half_eq a).symm
theorem end_div {a : Int} (ha : I64 a) : bits BinOp.xor .i64 9223372036854775807 (a / 9223372036854775808) = if a < 0 then -9223372036854775808 else 9223372036854775807 := by
  rw [bits_xor_iv, ← end_eq ha, Int.fdiv_eq_ediv_of_nonneg _ (by decide)]
theorem send_any (a : Int) (ha : I64 a) (w : World) :
    Calls Tryz.prog 67 #[.int .i64 a] w fun e w' => e = .returned (.int .i64 (if a < 0 then -9223372036854775808 else 9223372036854775807)) ∧ w = w' := by
  have he := end_div ha
  obtain ⟨r, hr⟩ : ∃ r : Int, (if a < 0 then -9223372036854775808 else 9223372036854775807) = r := ⟨_, rfl⟩
  rw [hr] at he ⊢
  clear hr
  go_enter Tryz.func67, Tryz.ntmps67
  go_wp2
  go_ret
  exact ⟨rfl, rfl⟩
theorem sub_test {a b : Int} (ha : I64 a) (hb : I64 b) : bits BinOp.and .i64 (bits BinOp.xor .i64 a b) (bits BinOp.xor .i64 a (wrap64 (a - b))) < 0 ↔ (a - b < -9223372036854775808 ∨ 9223372036854775807 < a - b) := by
  have h := sub_over ha hb
  rw [bits_xor_iv, bits_and_iv, bits_xor_iv, bv_iv, bv_iv, wrap64_eq]
  exact decide_eq_decide.1 h
theorem ssub_any (a b : Int) (ha : I64 a) (hb : I64 b) (w : World) :
    Calls Tryz.prog 27 #[.int .i64 a, .int .i64 b] w fun e w' => e = .returned (.int .i64 (satSub a b)) ∧ w = w' := by
  have ho := sub_test ha hb
  by_cases h : a - b < -9223372036854775808 ∨ 9223372036854775807 < a - b
  · have ho1 := ho.2 h
    have hv : (if a < 0 then -9223372036854775808 else 9223372036854775807 : Int) = satSub a b := by
      obtain ⟨a1, a2⟩ := ha
      obtain ⟨b1, b2⟩ := hb
      unfold satSub clamp64
      (repeat' split) <;> omega
    have hend := hide (fun w => hv ▸ send_any a ha w)
    clear ho h ha hb hv
    generalize satSub a b = r at hend ⊢
    go_enter Tryz.func27, Tryz.ntmps27
    go_wp2_with fail
    refine (hend.out _).mono ?_
    rintro e w' ⟨rfl, rfl⟩
    go_wp2
    go_ret
    exact ⟨rfl, rfl⟩
  · have ho1 : 0 ≤ bits BinOp.and .i64 (bits BinOp.xor .i64 a b) (bits BinOp.xor .i64 a (wrap64 (a - b))) := Int.not_lt.1 fun x => h (ho.1 x)
    have hv : wrap64 (a - b) = satSub a b := by
      rw [wrap64_eq, wrap_in ⟨by omega, by omega⟩]
      unfold satSub clamp64
      (repeat' split) <;> omega
    replace hv := hide hv
    clear ho h ha hb
    go_enter Tryz.func27, Tryz.ntmps27
    go_wp2_with fail
    go_ret
    exact ⟨int_ret hv.out, rfl⟩
theorem smid_any (a b : Int) (ha : I64 a) (hb : I64 b) (w : World) :
    Calls Tryz.prog 178 #[.int .i64 a, .int .i64 b] w fun e w' => e = .returned (.int .i64 (Int.fdiv (a + b) 2)) ∧ w = w' := by
  have ho : wrap64 (bits BinOp.and .i64 a b + bits BinOp.xor .i64 a b / 2) = Int.fdiv (a + b) 2 := by
    rw [wrap64_eq, half_div, bits_and_iv, bits_xor_iv]
    exact mid_eq ha hb
  go_enter Tryz.func178, Tryz.ntmps178
  go_wp2_with fail
  go_ret
  exact ⟨int_ret ho, rfl⟩
end Go.Proofs.YtpjfiplejhbdfaaGreatDoor

