/- Decimal words: plain Lean. lex.Number, and the document's. lex.Text, and the document's. strings.Builder: what a write does, and what it leaves. (The shelf's contracts of the writing methods do not fit this dump's text of copyCheck.) packet.words (contract). -/
import Derived.Test.YtpjfiplejhbdfaaGreatDoorPUai
import Derived.Shelf.Strings.SlTrimAscii
import Derived.Lib.AtoiAllCases
import Derived.Test.YtpjfiplejhbdfaaGreatDoorPUad
import Derived.Laws.BytesArg
import Derived.Shelf.Strings.Builder1
import Derived.Test.YtpjfiplejhbdfaaGreatDoorPUag
namespace Go.Proofs.YtpjfiplejhbdfaaGreatDoor
open Go.RowKit

def isDig (b : UInt8) : Bool := decide (48 ≤ b.toNat) && decide (b.toNat ≤ 57)
def decFromV (n : Nat) (l : List UInt8) : Nat := l.foldl (fun n b => 10 * n + (b.toNat - 48)) n
/-- What digits spell. -/
def decV (l : List UInt8) : Nat := decFromV 0 l
/-- Is it a number's text? -/
def numB (l : List UInt8) : Bool := !l.isEmpty && l.all isDig && !(decide (1 < l.length) && decide (l.head? = some 48))
/-- What is told of a word: the number, the error. -/
def numR (l : List UInt8) : Int × Int := if numB l = true then (if 1000000000 < decV l then (0, 3) else ((decV l : Nat), 0)) else (0, 6)

theorem decFromV_cons (n : Nat) (b : UInt8) (l : List UInt8) : decFromV n (b :: l) = decFromV (10 * n + (b.toNat - 48)) l := by simp only [decFromV, List.foldl_cons]
theorem decFromV_le (l : List UInt8) : ∀ n, n ≤ decFromV n l := by
  induction l with
  | nil => intro n; exact Nat.le_refl _
  | cons b l ih => intro n; rw [decFromV_cons]; have := ih (10 * n + (b.toNat - 48)); omega
theorem decFromV_app (l : List UInt8) : ∀ n b, decFromV n (l ++ [b]) = 10 * decFromV n l + (b.toNat - 48) := by
  induction l with
  | nil => intro n b; rfl
  | cons c l ih => intro n b; rw [List.cons_append, decFromV_cons, ih, decFromV_cons]
theorem parse_dig (l : List UInt8) (h : l.all isDig = true) : ∀ acc, acc < 18446744073709551616 → Lib.parseUint10 acc l = if decFromV acc l < 18446744073709551616 then .ok (decFromV acc l) else .range := by
  induction l with
  | nil => intro acc ha; simp [Lib.parseUint10, decFromV, ha]
  | cons b l ih =>
    intro acc ha
    simp only [List.all_cons, Bool.and_eq_true] at h
    have hb : 48 ≤ b.toNat ∧ b.toNat ≤ 57 := by have := h.1; simp [isDig] at this; exact this
    rw [Lib.parseUint10, if_pos hb, decFromV_cons]
    have hle := decFromV_le l (10 * acc + (b.toNat - 48))
    by_cases h1 : 1844674407370955162 ≤ acc
    · rw [if_pos h1, if_neg (by omega)]
    · rw [if_neg h1]
      by_cases h2 : 18446744073709551616 ≤ acc * 10 + (b.toNat - 48)
      · rw [if_pos h2, if_neg (by omega)]
      · rw [if_neg h2, ih h.2 _ (by omega), Nat.mul_comm acc 10]

theorem atoi_dig (l : List UInt8) (h0 : l ≠ []) (h : l.all isDig = true) : Lib.atoiAll l = if decV l < 9223372036854775808 then .ok (decV l : Int) else .range := by
  cases l with
  | nil => exact absurd rfl h0
  | cons c r =>
    have hc : 48 ≤ c.toNat ∧ c.toNat ≤ 57 := by have := h; simp [isDig] at this; exact this.1
    rw [Lib.atoiAll_plain c r (by omega) (by omega), Lib.parseMag, if_neg (by simp), parse_dig (c :: r) h 0 (by omega)]
    show Lib.signless (if decV (c :: r) < _ then .ok (decV (c :: r)) else .range) = _
    by_cases h1 : decV (c :: r) < 9223372036854775808
    · rw [if_pos (by omega), if_pos h1, Lib.signless, if_neg (by omega)]
    · rw [if_neg h1]
      by_cases h2 : decV (c :: r) < 18446744073709551616
      · rw [if_pos h2, Lib.signless, if_pos (by omega)]
      · rw [if_neg h2]; rfl

def digits10 : List UInt8 := [48, 49, 50, 51, 52, 53, 54, 55, 56, 57]
theorem digits_mem (b : UInt8) : digits10.contains b = isDig b := by
  have h : ∀ n, n < 256 → digits10.contains (UInt8.ofNat n) = isDig (UInt8.ofNat n) := by decide +kernel
  have := h b.toNat b.toNat_lt
  rwa [UInt8.ofNat_toNat] at this
theorem dropAll {p : UInt8 → Bool} (l : List UInt8) : List.dropWhile p l = [] ↔ ∀ b ∈ l, p b = true := by
  induction l with
  | nil => simp
  | cons b l ih =>
    rw [List.dropWhile_cons]
    cases hb : p b <;> simp [hb, ih]
theorem trim_dig (l : List UInt8) : Lib.trimS l digits10 = [] ↔ l.all isDig = true := by
  unfold Lib.trimS Lib.trimLeftS Lib.trimRightS
  have hf : (fun b => digits10.contains b) = isDig := funext digits_mem
  rw [hf]
  constructor
  · intro h
    have h1 : ∀ b ∈ (List.dropWhile isDig l.reverse).reverse, isDig b = true := by
      rw [dropAll] at h
      exact h
    have h2 : List.dropWhile isDig l.reverse = [] := by
      cases hd : List.dropWhile isDig l.reverse with
      | nil => rfl
      | cons b r =>
        have h3 := List.head_dropWhile_not isDig (l := l.reverse) (by rw [hd]; simp)
        simp only [hd, List.head_cons] at h3
        have := h1 b (by rw [hd]; simp)
        rw [h3] at this
        cases this
    rw [dropAll] at h2
    rw [List.all_eq_true]
    intro b hb
    exact h2 b (by simpa using hb)
  · intro h
    rw [List.all_eq_true] at h
    have h2 : List.dropWhile isDig l.reverse = [] := by
      rw [dropAll]
      intro b hb
      exact h b (by simpa using hb)
    rw [h2]
    rfl
end Go.Proofs.YtpjfiplejhbdfaaGreatDoor

namespace Go.Proofs.YtpjfiplejhbdfaaGreatDoor
open Go.RowKit

/-- What numbers take of the library's variables. -/
structure LaidN (w : World) : Prop where
  s : LaidS w
  pow : Lib.TabIs Tryz.prog w "internal/strconv.uint64pow10" .u64 Lib.pow10Tab
  err : ∃ tp p, w.var? Tryz.prog "strconv.ErrRange" = some #[.iface tp p]
theorem gPow : Tryz.prog.globalNamed "internal/strconv.uint64pow10" = some 10 := by kernel_rfl
theorem gErrR : Tryz.prog.globalNamed "strconv.ErrRange" = some 9 := by kernel_rfl
theorem LaidN.mod {w w' : World} (h : LaidN w) (hm : Mod NoB w w') : LaidN w' :=
  ⟨h.s.mod hm, Mod.var hm gPow id h.pow, let ⟨tp, p, e⟩ := h.err; ⟨tp, p, Mod.var hm gErrR id e⟩⟩

theorem trimw_any (l : List UInt8) (w : World) (hl : l.length ≤ 9223372036854775807) :
    Calls Tryz.prog 138 #[.string (bs l), .string ⟨#[48, 49, 50, 51, 52, 53, 54, 55, 56, 57]⟩] w fun e w' => e = .returned (.string (bs (Lib.trimS l digits10))) ∧ Mod NoB w w' :=
  (Any.strings_Trim_laid Tryz.lays160 (by kernel_rfl) (bs l) ⟨#[48, 49, 50, 51, 52, 53, 54, 55, 56, 57]⟩ w hl (by decide) (ascii_of_all (by decide))).mono fun _ _ ⟨h1, h2⟩ => ⟨h1, Below.mod h2⟩

/-- strconv.Atoi at digits: what stands beside an error is not looked at. -/
def AtoiOut (w : World) (l : List UInt8) (e : Ending) (w' : World) : Prop :=
  (if decV l < 9223372036854775808 then e = .returned (.tuple #[.int .i64 (decV l : Nat), .nilIface]) else ∃ (x : Int) (t : TypeId) (p : Value), e = .returned (.tuple #[.int .i64 x, .iface t p])) ∧ Mod NoB w w'
theorem atoiw_any (l : List UInt8) (w : World) (hl : l.length ≤ 1000000) (h0 : l ≠ []) (hd : l.all isDig = true) (hL : LaidN w) :
    Calls Tryz.prog 139 #[.string (bs l)] w (AtoiOut w l) := by
  have ha := atoi_dig l h0 hd
  by_cases h : decV l < 9223372036854775808
  · rw [if_pos h] at ha
    refine (Tryz.strconv_Atoi_ok (bs l) (by show l.length ≤ _; omega) _ ha w).mono ?_
    rintro e w' ⟨rfl, hw⟩
    refine ⟨by rw [if_pos h], ?_⟩
    rcases hw with rfl | ⟨t, rfl⟩
    · exact Mod.refl _ _
    · exact Below.mod (Lib.bytesWorld_below _ _ _)
  · rw [if_neg h] at ha
    obtain ⟨tp, p, hv⟩ := hL.err
    refine (Tryz.strconv_Atoi_range_var (bs l) (by show l.length ≤ _; omega) ha tp p w hv).mono ?_
    rintro e w' ⟨N, rfl, _, _, hb⟩
    exact ⟨by rw [if_neg h]; exact ⟨_, _, _, rfl⟩, Below.mod hb⟩

theorem numR_no {l : List UInt8} (h : numB l = false) : numR l = (0, 6) := by simp [numR, h]
theorem numR_far {l : List UInt8} (h : numB l = true) (h2 : 1000000000 < decV l) : numR l = (0, 3) := by simp [numR, h, h2]
theorem numR_ok {l : List UInt8} (h : numB l = true) (h2 : ¬ 1000000000 < decV l) : numR l = (((decV l : Nat) : Int), 0) := by unfold numR; rw [if_pos h, if_neg h2]
set_option maxRecDepth 100000 in
set_option maxHeartbeats 4000000 in
theorem number_any (l : List UInt8) (w : World) (hl : l.length ≤ 1000000) (hL : LaidN w) :
    Calls Tryz.prog 110 #[.string (bs l)] w fun e w' => e = .returned (.tuple #[.int .i64 (numR l).1, .int .i64 (numR l).2]) ∧ Mod NoB w w' := by
  have ht := trimw_any l w (by omega)
  obtain ⟨r1, r2, hr⟩ : ∃ r1 r2, numR l = (r1, r2) := ⟨_, _, rfl⟩
  rw [hr]
  replace hr := hide hr
  show Calls _ _ _ _ fun e w' => e = .returned (.tuple #[.int .i64 r1, .int .i64 r2]) ∧ Mod NoB w w'
  by_cases h0 : l = []
  · subst h0
    clear ht
    have hr2 : Hid (((0 : Int), (6 : Int)) = (r1, r2)) := hide hr.out
    go_enter Tryz.func110, Tryz.ntmps110
    go_wp2
    go_ret2
    cases hr2.out
    exact ⟨rfl, Mod.refl _ _⟩
  · have hne : l.isEmpty = false := by simpa using h0
    have hlen : 0 < l.length := by cases l <;> simp_all
    cases hd : l.all isDig with
    | false =>
      have hte : (Lib.trimS l digits10).isEmpty = false := by
        rw [List.isEmpty_eq_false_iff]
        intro h
        rw [(trim_dig l).1 h] at hd
        cases hd
      have hr2 : Hid (((0 : Int), (6 : Int)) = (r1, r2)) := hide (by rw [← hr.out]; exact (numR_no (by simp [numB, hd])).symm)
      generalize Lib.trimS l digits10 = t at ht hte
      replace ht := hide ht
      clear hd h0
      go_enter Tryz.func110, Tryz.ntmps110
      go_wp2_with fail
      refine ht.out.mono ?_
      rintro e w1 ⟨rfl, hm⟩
      replace hm := hide hm
      go_wp2
      go_ret2
      cases hr2.out
      exact ⟨rfl, hm.out⟩
    | true =>
      have hte := (trim_dig l).2 hd
      rw [hte] at ht
      replace ht := hide ht
      have hat := fun w' (h : Mod NoB w w') => atoiw_any l w' hl h0 hd (hL.mod h)
      replace hat := hide hat
      obtain ⟨b, hb⟩ : ∃ b, l[0]? = some b := ⟨l[0], by simp [hlen]⟩
      have hbi : ∀ h : 0 < (bs l).size, (bs l)[0]'h = b := fun h => (List.getElem?_eq_some_iff.mp hb).2
      have hhd : l.head? = some b := by rw [← hb]; cases l <;> rfl
      have hnb : numB l = !(decide (1 < l.length) && decide (b = 48)) := by
        unfold numB
        rw [hne, hd, hhd]
        simp
      clear hte
      replace hnb := hide hnb
      replace hhd := hide hhd
      clear hb
      by_cases h1 : 1 < l.length
      · by_cases h48 : b = 48
        · have hr2 : Hid (((0 : Int), (6 : Int)) = (r1, r2)) := hide (by rw [← hr.out]; exact (numR_no (by rw [hnb.out]; simp [h1, h48])).symm)
          subst h48
          have h48 : ((UInt8.toNat 48 : Nat) : Int) = 48 := rfl
          clear hat h0 hd
          go_enter Tryz.func110, Tryz.ntmps110
          go_wp2_with fail
          refine ht.out.mono ?_
          rintro e w1 ⟨rfl, hm⟩
          replace hm := hide hm
          go_wp2
          go_ret2
          cases hr2.out
          exact ⟨rfl, hm.out⟩
        · have h48b : ((b.toNat : Int) == 48) = false := by
            simp
            intro e
            exact h48 (UInt8.toNat_inj.mp (by show b.toNat = 48; omega))
          have hnt : numB l = true := by rw [hnb.out]; simp [h48]
          have hok : Hid (¬ 1000000000 < decV l → (((decV l : Nat) : Int), (0 : Int)) = (r1, r2)) := hide fun h => by rw [← hr.out]; exact (numR_ok hnt h).symm
          have hfar : Hid (1000000000 < decV l → ((0 : Int), (3 : Int)) = (r1, r2)) := hide fun h => by rw [← hr.out]; exact (numR_far hnt h).symm
          clear hnt h0 hd
          go_enter Tryz.func110, Tryz.ntmps110
          go_wp2_with fail
          refine ht.out.mono ?_
          rintro e w1 ⟨rfl, hm⟩
          replace hm := hide hm
          go_wp2_with fail
          refine (hat.out _ hm.out).mono ?_
          rintro e w2 ⟨ho, hm2⟩
          replace hm := hide (hm.out.trans hm2)
          clear hm2 hat ht
          generalize decV l = v at ho hok hfar
          by_cases hv : v < 9223372036854775808
          · rw [if_pos hv] at ho
            subst ho
            by_cases hv9 : 1000000000 < v
            · go_wp2
              go_ret2
              cases hfar.out hv9
              exact ⟨rfl, hm.out⟩
            · go_wp2
              go_ret2
              cases hok.out hv9
              exact ⟨rfl, hm.out⟩
          · rw [if_neg hv] at ho
            obtain ⟨x, t, p, rfl⟩ := ho
            have hv9 : 1000000000 < v := by omega
            go_wp2
            go_ret2
            cases hfar.out hv9
            exact ⟨rfl, hm.out⟩
      · have hlt : ¬ ((1 : Int) < (l.length : Int)) := by omega
        have hnt : numB l = true := by rw [hnb.out]; simp [h1]
        have hok : Hid (¬ 1000000000 < decV l → (((decV l : Nat) : Int), (0 : Int)) = (r1, r2)) := hide fun h => by rw [← hr.out]; exact (numR_ok hnt h).symm
        have hfar : Hid (1000000000 < decV l → ((0 : Int), (3 : Int)) = (r1, r2)) := hide fun h => by rw [← hr.out]; exact (numR_far hnt h).symm
        clear hnt h0 hd
        go_enter Tryz.func110, Tryz.ntmps110
        go_wp2_with fail
        refine ht.out.mono ?_
        rintro e w1 ⟨rfl, hm⟩
        replace hm := hide hm
        go_wp2_with fail
        refine (hat.out _ hm.out).mono ?_
        rintro e w2 ⟨ho, hm2⟩
        replace hm := hide (hm.out.trans hm2)
        clear hm2 hat ht
        generalize decV l = v at ho hok hfar
        by_cases hv : v < 9223372036854775808
        · rw [if_pos hv] at ho
          subst ho
          by_cases hv9 : 1000000000 < v
          · go_wp2
            go_ret2
            cases hfar.out hv9
            exact ⟨rfl, hm.out⟩
          · go_wp2
            go_ret2
            cases hok.out hv9
            exact ⟨rfl, hm.out⟩
        · rw [if_neg hv] at ho
          obtain ⟨x, t, p, rfl⟩ := ho
          have hv9 : 1000000000 < v := by omega
          go_wp2
          go_ret2
          cases hfar.out hv9
          exact ⟨rfl, hm.out⟩

/-- A number that has stopped growing past the greatest one. -/
def NSat (d : Nat) (n : Int) : Prop := (d ≤ 1000000000 ∧ n = d) ∨ (1000000000 < d ∧ 1000000000 < n ∧ n ≤ 10000000009)
theorem NSat.step {d : Nat} {n : Int} (h : NSat d n) (hn : n ≤ 1000000000) (k : Nat) (hk : k ≤ 9) : NSat (10 * d + k) (10 * n + k) := by
  rcases h with ⟨h1, h2⟩ | ⟨h1, h2, h3⟩
  · subst h2
    by_cases h : 10 * d + k ≤ 1000000000
    · exact Or.inl ⟨h, by omega⟩
    · exact Or.inr ⟨by omega, by omega, by omega⟩
  · omega
end Go.Proofs.YtpjfiplejhbdfaaGreatDoor

namespace Go.Proofs.YtpjfiplejhbdfaaGreatDoor
open Go.RowKit

/-- A number's text. -/
def textOf (n : Int) : List UInt8 := if n < 0 ∨ 1000000000 < n then [] else Lib.decDigits n.toNat

end Go.Proofs.YtpjfiplejhbdfaaGreatDoor

namespace Go.Proofs.YtpjfiplejhbdfaaGreatDoor
open Go.RowKit Go.Shelf

/-- A builder of the call's own, in block b; its row lies from base on. -/
def BldAt (base b : Nat) (l : List UInt8) (w : World) : Prop := Lib.IsBuilder 301 5 base b (Lib.byteCells l) w

/-- A write to a builder: its own block, and rows of bytes, may have turned; nothing else. -/
def KeepB (base b : Nat) (w w' : World) : Prop := Mod (fun x => x = b ∨ (base ≤ x ∧ ∃ c f, w.heap[x]? = some (.cells c 5 f))) w w'
theorem KeepB.refl (base b : Nat) (w : World) : KeepB base b w w := Mod.refl _ _
theorem KeepB.trans {base b : Nat} {w w1 w2 : World} (h : KeepB base b w w1) (k : KeepB base b w1 w2) : KeepB base b w w2 :=
  ⟨k.os.trans h.os, k.tape.trans h.tape, k.output.trans h.output, Nat.le_trans h.size k.size, fun x hx hn => by
    have e1 := h.block x hx hn
    refine (k.block x (Nat.lt_of_lt_of_le hx h.size) ?_).trans e1
    rintro (rfl | ⟨hbx, c, f, hc⟩)
    · exact hn (Or.inl rfl)
    · rw [e1] at hc; exact hn (Or.inr ⟨hbx, c, f, hc⟩)⟩
theorem KeepB.heap {base b : Nat} {w w' : World} (h : KeepB base b w w') {x : Nat} {c : Array Value} {t : TypeId} {f : Nat × Nat} (hx : w.heap[x]? = some (.cells c t f)) (hb : x ≠ b) (ht : t ≠ 5) : w'.heap[x]? = some (.cells c t f) :=
  Mod.heap h hx (by
    rintro (e | ⟨_, c', f', hc⟩)
    · exact hb e
    · rw [hx] at hc; simp at hc; exact ht hc.2.1)
theorem KeepB.set {base b : Nat} {w w' : World} (h : KeepB base b w w') (o : Nat) (v : Value) : KeepB base b w (w'.setCell ⟨b, o, none⟩ v) := Mod.setCell h (p := ⟨b, o, none⟩) (Or.inl (Or.inl rfl)) _
theorem KeepB.grown {b base : Nat} {w w2 : World} {v : Value} {n : Nat} {xs : List Value} (h : w.ownsRow base 5 1 v n xs) (hg : w.grownBy w2 v.ownBlock) : KeepB base b w w2 :=
  Mod.grownIn (Mod.refl _ _) hg (fun k hk => by
    rcases h.2 with ⟨h1, _⟩ | ⟨g, cap, cur, h1, _, hgc, _⟩
    · subst h1; simp [Value.ownBlock] at hk
    · have hge := own_ge h k hk
      subst h1; simp [Value.ownBlock] at hk; subst hk; exact Or.inr ⟨hge, _, _, hgc⟩)
theorem KeepB.low {base b : Nat} {w w' : World} (h : KeepB base b w w') (hb : base ≤ b) {x o : Nat} {v : Value} (hx : x < base) (hc : w.cell? ⟨x, o, none⟩ = some v) : w'.cell? ⟨x, o, none⟩ = some v := Mod.cellAt h (by rintro (e | ⟨e, _⟩) <;> omega) hc
theorem infoByte : (Tryz.prog.info? 5).map (fun i => (i.zero, i.size, i.bytes)) = some (some (.int .u8 0), 1, 1) := by kernel_rfl
end Go.Proofs.YtpjfiplejhbdfaaGreatDoor

namespace Go.Proofs.YtpjfiplejhbdfaaGreatDoor
open Go.RowKit

abbrev bcells (l : List Nat) : List Value := l.map fun (c : Nat) => Value.int .u8 (c : Int)
/-- A new array of so many u64. -/
def U64At (w : World) (g : Nat) (xs : List Nat) : Prop := ∀ (j x : Nat), xs[j]? = some x → w.cell? ⟨g, j, none⟩ = some (.int .u64 (x : Int)) ∧ x < 18446744073709551616
theorem U64At.mod {S : Nat → Prop} {w w' : World} {g : Nat} {xs : List Nat} (h : U64At w g xs) (hm : Mod S w w') (hS : ¬ S g) : U64At w' g xs := fun j x hj => ⟨hm.cellAt hS (h j x hj).1, (h j x hj).2⟩
def wordsL (n : Nat) (xs : List Nat) : List Nat := xs.flatMap (be n)
theorem wordsL_len (n : Nat) (xs : List Nat) : (wordsL n xs).length = xs.length * n := by
  induction xs with
  | nil => simp [wordsL]
  | cons x xs ih =>
    have : wordsL n (x :: xs) = be n x ++ wordsL n xs := rfl
    rw [this, List.length_append, ih, be_len, List.length_cons, Nat.succ_mul, Nat.add_comm]
theorem wordsL_snoc (n : Nat) (xs : List Nat) (x : Nat) : wordsL n (xs ++ [x]) = wordsL n xs ++ be n x := by simp [wordsL]
theorem be_take_succ (n x i : Nat) (h : i < n) : (be n x).take (i + 1) = (be n x).take i ++ [x / 256 ^ (n - 1 - i) % 256] := by
  rw [List.take_add_one, be_at n x i h]
  rfl
theorem Mod.grownOver {base : Nat} {a w w' : World} {row : Option Nat} (h : Mod (base ≤ ·) a w) (hg : w.grownBy w' row) (hr : ∀ k, row = some k → base ≤ k) : Mod (base ≤ ·) a w' :=
  ⟨hg.os.trans h.os, hg.tape.trans h.tape, hg.output.trans h.output, Nat.le_trans h.size hg.size, fun k hk hn =>
    (hg.block k (Nat.lt_of_lt_of_le hk h.size) (fun e => hn (hr k e.symm))).trans (h.block k hk hn)⟩
theorem U64At.grown {w w' : World} {g : Nat} {xs : List Nat} {row : Option Nat} (h : U64At w g xs) (hg : w.grownBy w' row) (hr : ∀ k, row = some k → k ≠ g) : U64At w' g xs := fun j x hj => by
  obtain ⟨h1, h2⟩ := h j x hj
  exact ⟨(World.cell?_of_block (w := w) (hg.block g (World.block_lt_of_cell? w _ h1) (fun e => hr g e.symm rfl))).trans h1, h2⟩
theorem ownBlock_ge {w : World} {base size n : Nat} {e : TypeId} {v : Value} {xs : List Value} (h : w.ownsRow base e size v n xs) : ∀ b, v.ownBlock = some b → base ≤ b := by
  rcases h.2 with ⟨rfl, _⟩ | ⟨g, cap, cur, rfl, hb, _⟩
  · intro b hb; cases hb
  · intro b hb'; cases hb'; exact hb
theorem own_value {w : World} {base size n : Nat} {e : TypeId} {v : Value} {xs : List Value} (h : w.ownsRow base e size v n xs) : ∃ a c, v = .slice a n c := by
  rcases h.2 with ⟨rfl, rfl⟩ | ⟨g, cap, cur, rfl, hb, _⟩
  · exact ⟨_, _, rfl⟩
  · exact ⟨_, _, rfl⟩
set_option maxRecDepth 100000 in
set_option maxHeartbeats 4000000 in
theorem pwords_any (base : Nat) (v : Value) (l : List Nat) (n : Nat) (g : Nat) (xs : List Nat) (hn : 1 ≤ n) (hn2 : n ≤ 8) (hl : l.length ≤ 1000) (hx : xs.length ≤ 10) (w : World)
    (hbase : base ≤ w.heap.size) (hown : w.ownsRow base 5 1 v l.length (bcells l)) (hg : U64At w g xs) (hgb : ∀ b, v.ownBlock = some b → b ≠ g) (hgl : g < w.heap.size) :
    Calls Tryz.prog 85 #[v, .int .i64 n, .slice (some ⟨g, 0, none⟩) xs.length xs.length] w fun e w' =>
      ∃ v', e = .returned v' ∧ w'.ownsRow base 5 1 v' (l ++ wordsL n xs).length (bcells (l ++ wordsL n xs)) ∧ Mod (base ≤ ·) w w' := by
  obtain ⟨i0, hi, hz0, hz1, hz2⟩ := info_parts infoByte
  replace hown := hide hown
  replace hg := hide hg
  replace hgb := hide hgb
  replace hi := hide hi
  replace hz0 := hide hz0
  replace hz1 := hide hz1
  replace hz2 := hide hz2
  go_enter Tryz.func85, Tryz.ntmps85
  go_wp2_with fail
  go_loopw [0, 12] (fun vs vk wr => ∃ k, k ≤ xs.length ∧ vk = .int .i64 (k : Int) ∧ wr.ownsRow base 5 1 vs (l ++ wordsL n (xs.take k)).length (bcells (l ++ wordsL n (xs.take k))) ∧ Mod (base ≤ ·) w wr ∧ U64At wr g xs ∧ ∀ b, vs.ownBlock = some b → b ≠ g)
    (fun _ vk _ => xs.length - (intOf vk).toNat)
  case atStart => exact ⟨0, by omega, rfl, by simpa [wordsL] using hown.out, Mod.refl _ _, hg.out, hgb.out⟩
  case round =>
    obtain ⟨k, hk, rfl, hrow, hmr, hgr, hne⟩ := hrel
    obtain ⟨a0, c0, hv0⟩ := own_value hrow
    by_cases hlt : k < xs.length
    · obtain ⟨x, hxk⟩ : ∃ x, xs[k]? = some x := ⟨xs[k], by simp [hlt]⟩
      obtain ⟨hc, hx64⟩ := hgr k x hxk
      have htk : Hid (xs.take (k + 1) = xs.take k ++ [x]) := hide (by rw [List.take_add_one, hxk]; rfl)
      generalize hL : l ++ wordsL n (xs.take k) = L at hrow hv0
      replace hL := hide hL
      replace hrow := hide hrow
      replace hmr := hide hmr
      replace hgr := hide hgr
      replace hne := hide hne
      replace hxk := hide hxk
      subst hv0
      have hk0 : (0 : Int) ≤ (k : Int) := by omega
      have hk1 : (k : Int) < (xs.length : Int) := by omega
      go_wp2_with fail
      go_loopw [0, 17] (fun vs vi wq => ∃ i, i ≤ n ∧ vi = .int .i64 (i : Int) ∧ wq.ownsRow base 5 1 vs (L ++ (be n x).take i).length (bcells (L ++ (be n x).take i)) ∧ Mod (base ≤ ·) w wq ∧ U64At wq g xs ∧ ∀ b, vs.ownBlock = some b → b ≠ g)
        (fun _ vi _ => n - (intOf vi).toNat)
      case atStart => exact ⟨0, by omega, rfl, by simpa using hrow.out, hmr.out, hgr.out, hne.out⟩
      case round =>
        obtain ⟨i, hin, rfl, hrow2, hmr2, hgr2, hne2⟩ := hrel
        obtain ⟨a1, c1, hv1⟩ := own_value hrow2
        by_cases hil : i < n
        · have htk2 := hide (be_take_succ n x i hil)
          generalize hM : L ++ (be n x).take i = M at hrow2 hv1
          replace hM := hide hM
          replace hrow2 := hide hrow2
          replace hmr2 := hide hmr2
          replace hgr2 := hide hgr2
          replace hne2 := hide hne2
          subst hv1
          have hi1 : (i : Int) < (n : Int) := by omega
          have hsz := hmr2.out.size
          have hml : M.length ≤ 1090 := by
            have h1 := congrArg List.length hM.out
            have h2 := congrArg List.length hL.out
            have h3 : (xs.take k).length * n ≤ 10 * 8 := Nat.mul_le_mul (by simp; omega) hn2
            rw [List.length_append, List.length_take, be_len] at h1
            rw [List.length_append, wordsL_len] at h2
            omega
          have hcast : Hid ((x : Int) / 2 ^ (8 * (n - 1 - i)) % 256 = ((x / 256 ^ (n - 1 - i) % 256 : Nat) : Int)) := hide (by
            have e : (256 : Nat) ^ (n - 1 - i) = 2 ^ (8 * (n - 1 - i)) := by rw [Nat.pow_mul]
            rw [e, Int.natCast_emod, Int.natCast_ediv, Int.natCast_pow]
            rfl)
          go_wp2_with (refine wpList_append_own_at _ rfl (.tmp 20) (.tmp 29) 36 rfl base 5 i0 (.int .u8 0) 1 1 Tryz.underlying36 hi.out hz0.out hz1.out hz2.out rfl (by decide) (.slice a1 M.length c1) M.length _ rfl (hrow2.out.alloc _) ⟨wr.heap.size, 0, none⟩ 1 1 [.int .u8 ((x : Int) / 2 ^ (8 * (n - 1 - i)) % 256)] rfl rfl (cell_one_new _ _ _) (by intro u hu; simp at hu; subst hu; rfl) (by unfold maxLen; omega) (by omega) (by simp; omega) ?_; intro v' w5 hown' hgrow _ hblk)
          have hgl2 : g < wr.heap.size := by omega
          have hm5 : Mod (base ≤ ·) w w5 := Mod.grownOver (hmr2.out.alloc _) hgrow (fun q hq => ownBlock_ge hrow2.out q hq)
          have hg5 : U64At w5 g xs := U64At.grown (hgr2.out.mod ((Mod.refl NoB wr).alloc _) id) hgrow hne2.out
          have hn5 : ∀ b, v'.ownBlock = some b → b ≠ g := by
            intro b hb
            rcases hblk with h | h
            · exact hne2.out b (h ▸ hb)
            · rw [h] at hb
              cases hb
              simp
              omega
          have hL5 : L ++ (be n x).take (i + 1) = M ++ [x / 256 ^ (n - 1 - i) % 256] := by rw [htk2.out, ← List.append_assoc, hM.out]
          have hrow5 : w5.ownsRow base 5 1 v' (L ++ (be n x).take (i + 1)).length (bcells (L ++ (be n x).take (i + 1))) := by
            rw [hL5, List.length_append]
            have : bcells (M ++ [x / 256 ^ (n - 1 - i) % 256]) = bcells M ++ [.int .u8 ((x : Int) / 2 ^ (8 * (n - 1 - i)) % 256)] := by
              rw [hcast.out]
              simp [bcells]
            rw [this]
            exact hown'
          go_roundw
          case rel => exact ⟨i + 1, by omega, by go_num, hrow5, hm5, hg5, hn5⟩
          case measure => simp [intOf]; omega
        · obtain rfl : i = n := by omega
          have hend : L ++ (be i x).take i = l ++ wordsL i (xs.take (k + 1)) := by
            rw [htk.out, wordsL_snoc, ← List.append_assoc, hL.out, List.take_of_length_le (by rw [be_len]; exact Nat.le_refl _)]
          rw [hend] at hrow2 hv1
          subst hv1
          replace hrow2 := hide hrow2
          replace hmr2 := hide hmr2
          replace hgr2 := hide hgr2
          replace hne2 := hide hne2
          go_wp2_with fail
          go_roundw
          case rel => exact ⟨k + 1, by omega, by go_num, hrow2.out, hmr2.out, hgr2.out, hne2.out⟩
          case measure => simp [intOf]; omega
    · obtain rfl : k = xs.length := by omega
      rw [List.take_length] at hrow hv0
      subst hv0
      replace hrow := hide hrow
      replace hmr := hide hmr
      go_wp2_with fail
      go_ret
      exact ⟨_, rfl, hrow.out, hmr.out⟩
end Go.Proofs.YtpjfiplejhbdfaaGreatDoor

