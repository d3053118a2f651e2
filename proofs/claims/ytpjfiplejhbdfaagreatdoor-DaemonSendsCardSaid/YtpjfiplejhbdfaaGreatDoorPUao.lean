/- conf.Print's closure: a line. conf.Print. Chapter 5's rows: what their list gives; a text handed in. Numbers and their texts; what the rows of numbers list. Lines that are built of words and blanks: plain Lean. What a config's text comes to: plain Lean. A daemon: plain Lean. A ring new, whole; a store (contracts). -/
import Derived.Test.YtpjfiplejhbdfaaGreatDoorPUaj
import Derived.Test.YtpjfiplejhbdfaaGreatDoorPUam
import Derived.Test.YtpjfiplejhbdfaaGreatDoorCards
import Derived.Test.YtpjfiplejhbdfaaGreatDoorTie
import Derived.Test.YtpjfiplejhbdfaaGreatDoorPUai
import Derived.Lay
import Derived.Deep.DeepWitnessRowRef
import Derived.ChangeMaps5
import Derived.Test.YtpjfiplejhbdfaaGreatDoorPUan
import Derived.Test.YtpjfiplejhbdfaaGreatDoorPUac
import Derived.Test.YtpjfiplejhbdfaaGreatDoorPUag
namespace Go.Proofs.YtpjfiplejhbdfaaGreatDoor
open Go.RowKit

/-- Ints that a builder's writes leave alone: they lie in a row of ints. -/
def IntsK (w : World) (p : Option Addr) (xs : List Int) : Prop := IntsL w p xs ∧ ∀ b off, p = some ⟨b, off, none⟩ → ∃ c f, w.heap[b]? = some (.cells c 3 f)
theorem IntsK.keep {base b : Nat} {w w' : World} {p : Option Addr} {xs : List Int} {T : TypeId} {cs : Array Value} {f0 : Nat × Nat} (h : IntsK w p xs) (hb : w.heap[b]? = some (.cells cs T f0)) (hT : T ≠ 3) (hm : KeepB base b w w') : IntsK w' p xs := by
  have hS : ∀ x off, p = some ⟨x, off, none⟩ → ¬ (x = b ∨ (base ≤ x ∧ ∃ c f, w.heap[x]? = some (.cells c 5 f))) := by
    intro x off e
    obtain ⟨c, f, hc⟩ := h.2 x off e
    rintro (rfl | ⟨_, c', f', hc'⟩)
    · rw [hb] at hc; simp at hc; exact hT hc.2.1
    · rw [hc] at hc'; simp at hc'
  refine ⟨h.1.mod hm hS, fun x off e => ?_⟩
  obtain ⟨c, f, hc⟩ := h.2 x off e
  exact ⟨c, f, Mod.heap hm hc (hS x off e)⟩
theorem BldAt.mod {base b : Nat} {l : List UInt8} {w w' : World} (h : BldAt base b l w) (hm : Mod NoB w w') : BldAt base b l w' := by
  rcases h with ⟨h1, v, h2, h3, h4⟩ | ⟨h1, v, h2, h3, h4⟩
  · exact Or.inl ⟨h1, v, hm.heap h2 id, ownsRow_mod h3 hm (fun _ f => f.elim), h4⟩
  · exact Or.inr ⟨h1, v, hm.heap h2 id, ownsRow_mod h3 hm (fun _ f => f.elim), h4⟩
theorem BldAt.block {base b : Nat} {l : List UInt8} {w : World} (h : BldAt base b l w) : ∃ cs, w.heap[b]? = some (.cells cs 301 (0, 0)) := by
  rcases h with ⟨_, v, h, _⟩ | ⟨_, v, h, _⟩
  · exact ⟨_, h⟩
  · exact ⟨_, h⟩

end Go.Proofs.YtpjfiplejhbdfaaGreatDoor

namespace Go.Proofs.YtpjfiplejhbdfaaGreatDoor
open Go.RowKit

theorem srvErr_pre {xs : List Int} : ∀ {n : Nat}, srvErr xs n = 0 → ∀ k, k < n → 1 ≤ xs.getD k 0 ∧ xs.getD k 0 ≤ 65535 ∧ inI (xs.take k) (xs.getD k 0) = false := by
  intro n
  induction n with
  | zero => intro _ k hk; omega
  | succ n ih =>
    intro h k hk
    by_cases h0 : srvErr xs n = 0
    · by_cases hkn : k < n
      · exact ih h0 k hkn
      · obtain rfl : k = n := by omega
        cases hb : inB3 (xs.getD k 0) 1 65535 with
        | false => rw [srv_low h0 hb] at h; simp at h
        | true =>
          cases hi : inI (xs.take k) (xs.getD k 0) with
          | true => rw [srv_twice h0 hb hi] at h; simp at h
          | false => exact ⟨(inB3_true hb).1, (inB3_true hb).2, rfl⟩
    · rw [srvErr, if_pos h0] at h
      exact absurd h h0
/-- What a checked config is. -/
structure Fine (xs : List Int) (q l m d s : Int) : Prop where
  some_ : 1 ≤ xs.length
  few : xs.length ≤ 16
  srv : srvErr xs xs.length = 0
  num : numErr xs.length q l m d s = 0
theorem check_fine {xs : List Int} {q l m d s : Int} (h : checkR xs q l m d s = 0) : Fine xs q l m d s := by
  unfold checkR at h
  split at h
  · simp at h
  · split at h
    · simp at h
    · split at h
      · rename_i h3; exact absurd h h3
      · rename_i h1 h2 h3
        exact ⟨by omega, by omega, by simpa using h3, h⟩
theorem fine_nums {xs : List Int} {q l m d s : Int} (h : Fine xs q l m d s) : (4 ≤ l ∧ l ≤ 1024) ∧ (l ≤ m ∧ m ≤ 1024) ∧ (1 ≤ q ∧ q ≤ xs.length) ∧ (1 ≤ d ∧ d ≤ 1000 * l - 2000) ∧ (1 ≤ s ∧ s ≤ 500) := by
  have := h.num
  unfold numErr at this
  split at this
  · rename_i hh
    simp only [Bool.and_eq_true] at hh
    obtain ⟨⟨⟨⟨a, b⟩, c⟩, e⟩, f⟩ := hh
    exact ⟨inB3_true a, inB3_true b, inB3_true c, inB3_true e, inB3_true f⟩
  · simp at this

/-- Behind an alloc of the builder, what is kept of it keeps all that was. -/
theorem KeepB.old {w w' : World} {o : Obj} (h : KeepB w.heap.size w.heap.size (w.alloc o) w') : Mod NoB w w' :=
  ⟨h.os, h.tape, h.output, Nat.le_trans ((Mod.refl NoB w).alloc o).size h.size, fun x hx _ => by
    have := h.block x (Nat.lt_of_lt_of_le hx ((Mod.refl NoB w).alloc o).size) (by rintro (e | ⟨e, _⟩) <;> omega)
    rw [this, heap_alloc_old hx]⟩
end Go.Proofs.YtpjfiplejhbdfaaGreatDoor

namespace Go.Proofs.YtpjfiplejhbdfaaGreatDoor
open Go.ChangeShapes Go.WideShapes Go.ChangeAt Go.RowKit

theorem laidS_of {W : World} {l : List (String × DataW Unit)} (hm : ("strings.asciiSpace", Rows.laid_strings_asciiSpace) ∈ l) (h : laidMet Tryz.prog l W) : LaidS W :=
  laid_tab gSpace (t := 279) (e := 5) (n := 256) (by kernel_rfl) Tryz.underlying279 Tryz.underlying5 (by kernel_rfl) (by kernel_rfl) h (by rw [show Lib.tabData .u8 Lib.asciiSpaceTab = Rows.laid_strings_asciiSpace by kernel_rfl]; exact hm)

theorem open_bs {H : Type} {enc : TypeId × Value → H} {P : Program} {w : World} {r : Reach} {b0 : Nat} {t : TypeId} {v : Value} {d : DataW H} {ps : List MemPlace} (ht : P.underlying t = some .string) (hval : Value.okWide P w r b0 t v) (hd : DataW.Trod enc P w 0 (fun _ => true) true t v d ps) :
    ∃ l : List UInt8, v = .string (bs l) ∧ l.length ≤ 9223372036854775807 := by
  obtain ⟨s, rfl, _, _, h⟩ := Go.ChangeMaps.open_string ht hval hd
  exact ⟨s.data.toList, rfl, h⟩
end Go.Proofs.YtpjfiplejhbdfaaGreatDoor

namespace Go.Proofs.YtpjfiplejhbdfaaGreatDoor
open Go.RowKit

theorem dig_of {u : Nat} (h : u < 10) : isDig (UInt8.ofNat (48 + u)) = true ∧ (UInt8.ofNat (48 + u)).toNat = 48 + u := by
  have h2 : (UInt8.ofNat (48 + u)).toNat = 48 + u := by simp; omega
  refine ⟨?_, h2⟩
  unfold isDig
  rw [h2]
  simp; omega
/-- What is asked of a number's digits. -/
structure DigOk (u : Nat) (l : List UInt8) : Prop where
  ne : l ≠ []
  all : l.all isDig = true
  val : decV l = u
  head : 1 < l.length → l.head? ≠ some 48
  zero : l.head? = some 48 → u = 0
theorem decDigits_ok (u : Nat) : DigOk u (Lib.decDigits u) := by
  induction u using Nat.strongRecOn with
  | _ u ih =>
    rw [Lib.decDigits]
    split
    · rename_i h
      obtain ⟨d1, d2⟩ := dig_of h
      refine ⟨by simp, by rw [List.all_cons, d1]; rfl, ?_, by simp, ?_⟩
      · show decFromV 0 [_] = u
        rw [decFromV_cons, d2]
        show 10 * 0 + (48 + u - 48) = u
        omega
      · intro e
        simp only [List.head?_cons, Option.some.injEq] at e
        have := congrArg UInt8.toNat e
        rw [d2] at this
        have h48 : (48 : UInt8).toNat = 48 := rfl
        omega
    · rename_i h
      have hi := ih (u / 10) (by omega)
      obtain ⟨d1, d2⟩ := dig_of (u := u % 10) (by omega)
      have hh : (Lib.decDigits (u / 10) ++ [UInt8.ofNat (48 + u % 10)]).head? = (Lib.decDigits (u / 10)).head? := by
        have := hi.ne
        cases hd : Lib.decDigits (u / 10) with
        | nil => exact absurd hd this
        | cons b r => rfl
      have hz : (Lib.decDigits (u / 10)).head? ≠ some 48 := fun e => by have := hi.zero e; omega
      refine ⟨by simp, by rw [List.all_append, hi.all, List.all_cons, d1]; rfl, ?_, fun _ => by rw [hh]; exact hz, fun e => absurd (hh ▸ e) hz⟩
      show decFromV 0 (_ ++ [_]) = u
      rw [decFromV_app, d2]
      have := hi.val
      unfold decV at this
      rw [this]
      omega
theorem numB_dec (u : Nat) : numB (Lib.decDigits u) = true := by
  obtain ⟨h1, h2, h3, h4, h5⟩ := decDigits_ok u
  unfold numB
  rw [h2]
  simp only [Bool.and_true, Bool.and_eq_true, Bool.not_eq_true', List.isEmpty_eq_false_iff]
  refine ⟨h1, ?_⟩
  by_cases h : 1 < (Lib.decDigits u).length
  · simp [h4 h]
  · simp [h]
theorem numR_text {n : Int} (h0 : 0 ≤ n) (h1 : n ≤ 1000000000) : numR (textOf n) = (n, 0) := by
  have ht : textOf n = Lib.decDigits n.toNat := by unfold textOf; rw [if_neg (by omega)]
  rw [ht, numR_ok (numB_dec _) (by rw [(decDigits_ok n.toNat).val]; omega), (decDigits_ok n.toNat).val]
  congr 1
  omega
theorem laidN_of {W : World} {l : List (String × DataW Unit)} (hm : ("strings.asciiSpace", Rows.laid_strings_asciiSpace) ∈ l) (hp : ("internal/strconv.uint64pow10", Rows.laid_internal_strconv_uint64pow10) ∈ l) (he : ("strconv.ErrRange", Rows.laid_strconv_ErrRange) ∈ l) (h : laidMet Tryz.prog l W) : LaidN W := by
  refine ⟨laidS_of hm h, laid_tab gPow (t := 394) (e := 33) (n := 20) (by kernel_rfl) Tryz.underlying394 Tryz.underlying33 (by kernel_rfl) (by kernel_rfl) h (by rw [show Lib.tabData .u64 Lib.pow10Tab = Rows.laid_internal_strconv_uint64pow10 by kernel_rfl]; exact hp), ?_⟩
  obtain ⟨g, t, cs, fuel, p, hg, hty, hvar, hd⟩ := laid_var h he
  obtain rfl := Option.some.inj (gErrR.symm.trans hg)
  have hty2 : (Tryz.prog.globals[9]?).map (·.type) = some 272 := by kernel_rfl
  obtain rfl := Option.some.inj (hty2.symm.trans hty)
  obtain ⟨_, u, v, hcs, _⟩ := iface_of_trod Tryz.underlying272 hd
  refine ⟨u, v, ?_⟩
  rw [hvar]
  congr 1
  exact Array.ext' hcs
end Go.Proofs.YtpjfiplejhbdfaaGreatDoor

namespace Go.Proofs.YtpjfiplejhbdfaaGreatDoor
open Go.RowKit

/-- Texts, a byte 10 between. -/
def nl : List (List UInt8) → List UInt8
  | [] => []
  | [s] => s
  | s :: t :: r => s ++ 10 :: nl (t :: r)
theorem fieldsGo_split {c : UInt8} (hc : Lib.isSp c = true) (b : List UInt8) : ∀ (a acc : List UInt8), Lib.fieldsGo acc (a ++ c :: b) = Lib.fieldsGo acc a ++ Lib.fieldsGo [] b := by
  intro a
  induction a with
  | nil => intro acc; rw [List.nil_append, go_sp hc, go_end]
  | cons x a ih =>
    intro acc
    rw [List.cons_append]
    cases hx : Lib.isSp x with
    | true => rw [go_sp hx, go_sp hx, ih, List.append_assoc]
    | false => rw [go_on hx, go_on hx, ih]
theorem fields_split {c : UInt8} (hc : Lib.isSp c = true) (a b : List UInt8) : Lib.fields (a ++ c :: b) = Lib.fields a ++ Lib.fields b := fieldsGo_split hc b a []
theorem fields_sp (x : List UInt8) : ∀ s : List UInt8, (∀ b ∈ s, Lib.isSp b = true) → Lib.fields (s ++ x) = Lib.fields x := by
  intro s
  induction s with
  | nil => intro _; rfl
  | cons c s ih =>
    intro h
    have := fieldsGo_split (h c (by simp)) (s ++ x) [] []
    rw [List.nil_append] at this
    show Lib.fieldsGo [] (c :: (s ++ x)) = _
    rw [this, go_end]
    exact ih (fun b hb => h b (by simp [hb]))

/-- What stands between words. -/
structure Blank (s : List UInt8) : Prop where
  ne : s ≠ []
  sp : ∀ b ∈ s, b = 32 ∨ b = 9
  len : s.length ≤ 3
theorem Blank.isSp {s : List UInt8} (h : Blank s) : ∀ b ∈ s, Lib.isSp b = true := fun b hb => by
  rcases h.sp b hb with rfl | rfl <;> rfl
theorem blank_word {cur s x : List UInt8} (hs : Blank s) : Lib.fields (cur ++ (s ++ x)) = Lib.fields cur ++ Lib.fields x := by
  obtain ⟨c, r, rfl⟩ : ∃ c r, s = c :: r := by
    cases s with
    | nil => exact absurd rfl hs.ne
    | cons c r => exact ⟨c, r, rfl⟩
  rw [List.cons_append, fields_split (hs.isSp c (by simp)), fields_sp x r (fun b hb => hs.isSp b (by simp [hb]))]

theorem dig_bytes {b : UInt8} (h : isDig b = true) : Lib.isSp b = false ∧ okB b = true ∧ b ≠ 10 ∧ b ≠ 35 := by
  have : ∀ n, n < 256 → isDig (UInt8.ofNat n) = true → Lib.isSp (UInt8.ofNat n) = false ∧ okB (UInt8.ofNat n) = true ∧ UInt8.ofNat n ≠ 10 ∧ UInt8.ofNat n ≠ 35 := by decide +kernel
  have h2 := this b.toNat b.toNat_lt
  rw [UInt8.ofNat_toNat] at h2
  exact h2 h

/-- A line so far: of words ws, no remark yet. -/
structure Cur (s : List UInt8) (ws : List (List UInt8)) : Prop where
  fields : Lib.fields s = ws
  ok : s.all okB = true
  no10 : (10 : UInt8) ∉ s
  no35 : (35 : UInt8) ∉ s
theorem Cur.nil : Cur [] [] := ⟨rfl, rfl, by simp, by simp⟩
theorem Blank.all {s : List UInt8} (h : Blank s) : s.all okB = true ∧ (10 : UInt8) ∉ s ∧ (35 : UInt8) ∉ s := by
  refine ⟨List.all_eq_true.2 fun b hb => ?_, fun hb => ?_, fun hb => ?_⟩
  · rcases h.sp b hb with rfl | rfl <;> rfl
  · rcases h.sp _ hb with h | h <;> exact absurd h (by decide)
  · rcases h.sp _ hb with h | h <;> exact absurd h (by decide)
theorem Cur.word {s b x : List UInt8} {ws : List (List UInt8)} (h : Cur s ws) (hb : Blank b) (hx : x ≠ []) (hd : x.all isDig = true) : Cur (s ++ (b ++ x)) (ws ++ [x]) := by
  have hd' := fun c hc => dig_bytes (List.all_eq_true.1 hd c hc)
  refine ⟨by rw [blank_word hb, h.fields, fields_word x (fun c hc => (hd' c hc).1) hx], ?_, ?_, ?_⟩
  · rw [List.all_append, List.all_append, h.ok, hb.all.1]
    simp only [Bool.true_and]
    exact List.all_eq_true.2 fun c hc => (hd' c hc).2.1
  · simp only [List.mem_append, not_or]
    exact ⟨h.no10, hb.all.2.1, fun hc => (hd' _ hc).2.2.1 rfl⟩
  · simp only [List.mem_append, not_or]
    exact ⟨h.no35, hb.all.2.2, fun hc => (hd' _ hc).2.2.2 rfl⟩
/-- A line that is done. -/
structure Done (s : List UInt8) (ws : List (List UInt8)) : Prop where
  fields : Lib.fields (upTo s 35) = ws
  ok : (upTo s 35).all okB = true
  no10 : (10 : UInt8) ∉ s
theorem Cur.done {s : List UInt8} {ws : List (List UInt8)} (h : Cur s ws) : Done s ws := by
  have := upTo_all h.no35
  exact ⟨by rw [this]; exact h.fields, by rw [this]; exact h.ok, h.no10⟩
end Go.Proofs.YtpjfiplejhbdfaaGreatDoor

namespace Go.Proofs.YtpjfiplejhbdfaaGreatDoor
open Go.RowKit

/-- The first line with a byte that may not be. -/
def badAt (l : List UInt8) : Option Nat := (List.range (partsN 10 l)).find? fun j => !okLine l j
theorem badAt_some {l : List UInt8} {j : Nat} (h1 : j < partsN 10 l) (h2 : okLine l j = false) (h3 : ∀ i, i < j → okLine l i = true) : badAt l = some j := by
  unfold badAt
  rw [List.find?_eq_some_iff_getElem]
  refine ⟨by simp [h2], j, by simpa using h1, by simp, fun i hi => ?_⟩
  simp [h3 i hi]
theorem badAt_none {l : List UInt8} (h : ∀ i, i < partsN 10 l → okLine l i = true) : badAt l = none := by
  unfold badAt
  rw [List.find?_eq_none]
  intro i hi
  simp [h i (by simpa using hi)]

def seenAll (s : Nat → Bool) : Bool := s 0 && s 1 && s 2 && s 3 && s 4
theorem seenAll_true {s : Nat → Bool} (h : ∀ k, k < 5 → s k = true) : seenAll s = true := by
  simp [seenAll, h]
theorem seenAll_false {s : Nat → Bool} {k : Nat} (hk : k < 5) (h : s k = false) : seenAll s = false := by
  rcases bounds5 k hk with rfl | rfl | rfl | rfl | rfl <;> simp [seenAll, h]

/-- Lines in turn, up to the first error: the line, the error, what has come of it. -/
def linesR : List (Nat × List (List UInt8)) → St → Int × Int × St
  | [], st => (0, 0, st)
  | (n, ws) :: r, st => if (lineR ws st).1 = 0 then linesR r (lineR ws st).2 else ((n : Int), (lineR ws st).1, st)
theorem linesR_ok {n : Nat} {ws : List (List UInt8)} {r : List (Nat × List (List UInt8))} {st : St} (h : (lineR ws st).1 = 0) : linesR ((n, ws) :: r) st = linesR r (lineR ws st).2 := by
  rw [linesR, if_pos h]
theorem linesR_bad {n : Nat} {ws : List (List UInt8)} {r : List (Nat × List (List UInt8))} {st : St} (h : (lineR ws st).1 ≠ 0) : linesR ((n, ws) :: r) st = ((n : Int), (lineR ws st).1, st) := by
  rw [linesR, if_neg h]
theorem linesR_app : ∀ (L M : List (Nat × List (List UInt8))) (st : St), (linesR L st).2.1 = 0 → linesR (L ++ M) st = linesR M (linesR L st).2.2 := by
  intro L
  induction L with
  | nil => intro M st _; rfl
  | cons x L ih =>
    intro M st h
    obtain ⟨n, ws⟩ := x
    by_cases h0 : (lineR ws st).1 = 0
    · rw [linesR_ok h0] at h
      rw [List.cons_append, linesR_ok h0, linesR_ok h0]
      exact ih M _ h
    · rw [linesR_bad h0] at h
      exact absurd h h0

def cfg0 : Cfg := ⟨[], 0, 0, 0, 0, 0⟩
def st0 : St := (cfg0, fun _ => false)
def checkC (a : Cfg) : Int := checkR a.srv a.q a.l a.m a.d a.s
def endR (x : Int × Int × St) : Cfg × Int × Int :=
  if x.2.1 ≠ 0 then (cfg0, x.1, x.2.1) else if seenAll x.2.2.2 = false then (cfg0, 0, 13) else if checkC x.2.2.1 ≠ 0 then (cfg0, 0, checkC x.2.2.1) else (x.2.2.1, 0, 0)
/-- What a text comes to: the config, the line, the error. -/
def parseR (l : List UInt8) : Cfg × Int × Int :=
  if 65536 < l.length then (cfg0, 0, 7) else
  match badAt l with
  | some j => (cfg0, ((j + 1 : Nat) : Int), 6)
  | none => endR (linesR (linesTo l (partsN 10 l)) st0)
theorem parseR_long {l : List UInt8} (h : 65536 < l.length) : parseR l = (cfg0, 0, 7) := if_pos h
theorem parseR_bad {l : List UInt8} (h : ¬ 65536 < l.length) {j : Nat} (hb : badAt l = some j) : parseR l = (cfg0, ((j + 1 : Nat) : Int), 6) := by
  unfold parseR
  rw [if_neg h, hb]
theorem parseR_lines {l : List UInt8} (h : ¬ 65536 < l.length) (hb : badAt l = none) : parseR l = endR (linesR (linesTo l (partsN 10 l)) st0) := by
  unfold parseR
  rw [if_neg h, hb]
theorem endR_err {x : Int × Int × St} (h : x.2.1 ≠ 0) : endR x = (cfg0, x.1, x.2.1) := if_pos h
theorem endR_lack {x : Int × Int × St} (h : x.2.1 = 0) (h2 : seenAll x.2.2.2 = false) : endR x = (cfg0, 0, 13) := by
  unfold endR
  rw [if_neg (by simp [h]), if_pos h2]
theorem endR_check {x : Int × Int × St} (h : x.2.1 = 0) (h2 : seenAll x.2.2.2 = true) (h3 : checkC x.2.2.1 ≠ 0) : endR x = (cfg0, 0, checkC x.2.2.1) := by
  unfold endR
  rw [if_neg (by simp [h]), if_neg (by simp [h2]), if_pos h3]
theorem endR_ok {x : Int × Int × St} (h : x.2.1 = 0) (h2 : seenAll x.2.2.2 = true) (h3 : checkC x.2.2.1 = 0) : endR x = (x.2.2.1, 0, 0) := by
  unfold endR
  rw [if_neg (by simp [h]), if_neg (by simp [h2]), if_neg (by simp [h3])]

end Go.Proofs.YtpjfiplejhbdfaaGreatDoor

namespace Go.Proofs.YtpjfiplejhbdfaaGreatDoor
open Go.RowKit

def sortI (l : List Int) : List Int := l.mergeSort fun x y => decide (x ≤ y)
def medI (l : List Int) : Int := (sortI l).getD ((l.length - 1) / 2) 0
/-- quorum.Choose: of an quorum that may be. -/
def chooseS (q : Int) (v : List VoteS) : Int × Int :=
  if q < 1 then (0, 3) else if (v.length : Int) < q then (0, 13) else if v.length = 0 then (0, 4) else (medI (v.map (·.offset)), 0)

structure DaemonS where
  c : Cfg
  k : ClockS
  ps : List PeerS
  ss : List (List SampleS)
  n : List Int
  draw : Nat
  h : Int
  theta : Int
  votes : List VoteS
  chosen : Int

/-- An event. -/
structure EvS where
  kind : Int
  h : Int
  addr : Int
  draw : Nat
  data : List Nat
/-- What is done. -/
structure OutS where
  sends : List (Int × List Nat)
  clock : Int
  wake : Int
  reason : Int
def out0 : OutS := ⟨[], 0, 0, 0⟩

/-- The peers behind a tick's questions. -/
def askPs (h clock : Int) (draw : Nat) (ps : List PeerS) : List PeerS := ps.map fun p => (p.ask h clock draw).getD p
/-- What is sent. -/
def askSends (h clock : Int) (draw : Nat) (ps : List PeerS) (srv : List Int) : List (Int × List Nat) :=
  (ps.zip srv).filterMap fun x => (x.1.ask h clock draw).map fun _ => (x.2, (queryP draw).bytes)
def drawOf (d : DaemonS) (draw : Nat) : Nat := if draw = 0 then d.draw else draw
def tickS (d : DaemonS) (h : Int) (draw : Nat) : DaemonS × List (Int × List Nat) :=
  ({ d with draw := drawOf d draw, ps := askPs h (d.k.at h).c (drawOf d draw) (d.ps.map (·.late h)) },
   askSends h (d.k.at h).c (drawOf d draw) (d.ps.map (·.late h)) d.c.srv)
/-- The first place of a number. -/
def placeOf (x : Int) : List Int → Nat
  | [] => 0
  | y :: l => if y = x then 0 else placeOf x l + 1
def zeroPeer : PeerS := ⟨0, 0, 0, 0, 0, 0, 0, 0, 0, 0⟩
/-- What a sample that was taken does. -/
def takeS (d : DaemonS) (h : Int) : DaemonS :=
  if (chooseS d.c.q (votesS d.ss h (2 * (d.c.m * 1000000000)) (d.k.at h).all)).2 = 0 then
    { d with k := d.k.adjust h (chooseS d.c.q (votesS d.ss h (2 * (d.c.m * 1000000000)) (d.k.at h).all)).1, theta := (chooseS d.c.q (votesS d.ss h (2 * (d.c.m * 1000000000)) (d.k.at h).all)).1,
             votes := votesS d.ss h (2 * (d.c.m * 1000000000)) (d.k.at h).all, chosen := IntKind.i64.wrap (d.chosen + 1) }
  else d
/-- hear. -/
def hearS (d : DaemonS) (h addr : Int) (b : List Nat) : DaemonS × Int :=
  if b.length < 48 then (d, 1)
  else if placeOf addr d.c.srv = d.c.srv.length then (d, 2)
  else
    let i := placeOf addr d.c.srv
    let p := d.ps.getD i zeroPeer
    let r := p.answer h (d.k.at h).c (d.k.at h).all (lookR b p.cookie) (pktOf b).recv (pktOf b).xmit
    match r.2.1 with
    | none => ({ d with ps := d.ps.set i r.1 }, r.2.2)
    | some x => (takeS { d with ps := d.ps.set i r.1, ss := d.ss.set i (storeAdd (d.ss.getD i []) x) } h, r.2.2)
def bumpS (n : List Int) (why : Int) : List Int := n.set why.toNat (IntKind.i64.wrap (n.getD why.toNat 0 + 1))
def datagramS (d : DaemonS) (h addr : Int) (b : List Nat) : DaemonS × Int :=
  ({ (hearS d h addr b).1 with n := bumpS (hearS d h addr b).1.n (hearS d h addr b).2 }, (hearS d h addr b).2)
/-- When something is to be done. -/
def wakeS : List PeerS → Int
  | [] => 0
  | p :: ps => ps.foldl (fun a p => if p.next < a then p.next else a) p.next
/-- Do's error. -/
def errS (d : DaemonS) (e : EvS) : Int := if e.kind ≠ 0 ∧ e.kind ≠ 1 then 10 else if e.h < 0 ∨ maxHard < e.h then 3 else if e.h < d.h then 8 else 0
/-- Do. -/
def doS (d : DaemonS) (e : EvS) : DaemonS × OutS :=
  if errS d e ≠ 0 then (d, out0)
  else if e.kind = 0 then
    let r := tickS { d with h := e.h } e.h e.draw
    (r.1, ⟨r.2, (r.1.k.at e.h).c, wakeS r.1.ps, 0⟩)
  else
    let r := datagramS { d with h := e.h } e.h e.addr e.data
    (r.1, ⟨[], (r.1.k.at e.h).c, wakeS r.1.ps, r.2⟩)
/-- New's error behind Parse. -/
def newErr (h clock : Int) : Int := if h < 0 ∨ maxHard < h ∨ clock < -2305843009213693952 ∨ 2305843009213693952 < clock then 3 else 0
def newPeer (c : Cfg) (h : Int) : PeerS := ⟨c.l, c.m, c.l, 0, 0, h, c.d * 1000000, 0, 0, 0⟩
def newS (c : Cfg) (h clock : Int) : DaemonS :=
  ⟨c, ⟨h, clock, 0, 0, c.s⟩, c.srv.map fun _ => newPeer c h, c.srv.map fun _ => [], List.replicate 13 0, 0, h, 0, [], 0⟩
end Go.Proofs.YtpjfiplejhbdfaaGreatDoor

namespace Go.Proofs.YtpjfiplejhbdfaaGreatDoor
set_option linter.unusedSimpArgs false
open Go.RowKit

/-- A slice value holds samples: nil and none, or a row of them. -/
def SamplesAt (w : World) (v : Value) (xs : List SampleS) : Prop :=
  (v = .slice none 0 0 ∧ xs = []) ∨ ∃ g c, v = .slice (some ⟨g, 0, none⟩) xs.length c ∧ ∀ j u, (scells xs)[j]? = some u → w.cell? ⟨g, j, none⟩ = some u
theorem scells_one (xs : List SampleS) : ∀ u ∈ scells xs, u.oneCell' = true := by
  intro u hu
  obtain ⟨y, _, hy⟩ := List.mem_flatMap.1 hu
  simp at hy
  rcases hy with rfl | rfl | rfl | rfl <;> rfl
theorem row_cells {w : World} {base : Nat} {t : TypeId} {n c g : Nat} {xs : List Value} (h : w.ownsRow base t 4 (.slice (some ⟨g, 0, none⟩) n c) n xs) : ∀ j u, xs[j]? = some u → w.cell? ⟨g, j, none⟩ = some u := by
  intro j u hj
  rcases h.2 with ⟨h0, _⟩ | ⟨g', cap, cur, hv, _, hg, _, _, hcs, htk⟩
  · cases h0
  · cases hv
    refine cell_of_block hg j ?_
    have hlt : j < xs.length := by
      rcases Nat.lt_or_ge j xs.length with h | h
      · exact h
      · rw [List.getElem?_eq_none h] at hj; cases hj
    rw [h.1] at hlt
    rw [← htk, List.getElem?_take_of_lt hlt, Array.getElem?_toList] at hj
    exact hj
theorem RingO.samples {w : World} {b : Nat} {sl : Value} {xs : List SampleS} (h : RingO w b sl xs) : SamplesAt w sl xs := by
  rcases h.row.2 with ⟨h0, h1⟩ | ⟨g, cap, cur, hv, _⟩
  · exact Or.inl ⟨h0, List.length_eq_zero_iff.1 h1⟩
  · have hr := h.row
    subst hv
    exact Or.inr ⟨g, cap, rfl, row_cells hr⟩
/-- Block b holds a store: a ring at rb, its slice sl. -/
structure StoreO (w : World) (b rb : Nat) (sl : Value) (xs : List SampleS) : Prop where
  blk : w.heap[b]? = some (.cells #[at0 rb] 187 (0, 0))
  ring : RingO w rb sl xs
theorem StoreO.mod {S : Nat → Prop} {w w' : World} {b rb : Nat} {sl : Value} {xs : List SampleS} (h : StoreO w b rb sl xs) (hm : Mod S w w') (hb : ¬ S b) (hr : ¬ S rb) (hs : ∀ g, sl.ownBlock = some g → ¬ S g) : StoreO w' b rb sl xs :=
  ⟨hm.heap h.blk hb, h.ring.mod hm hr hs⟩
theorem rall_any (b : Nat) (sl : Value) (xs : List SampleS) (w : World) (h : RingO w b sl xs) (hl : xs.length ≤ 8) :
    Calls Tryz.prog 242 #[at0 b] w fun e w' => ∃ v, e = .returned v ∧ SamplesAt w' v xs ∧ (∀ g, v.ownBlock = some g → w.heap.size ≤ g) ∧ Mod NoB w w' := by
  have hs := h.samples
  obtain ⟨⟨cnt, hcnt, hblk⟩, hrow⟩ := h
  have k0 := cell_of_block hblk 0 rfl
  rcases hs with ⟨rfl, rfl⟩ | ⟨g, c, rfl, hc⟩
  · clear hblk hrow
    have h1 := hide (cloneS_nil 0 0)
    go_enter Tryz.func242, Tryz.ntmps242
    go_wp2_with fail
    refine (h1.out _).mono ?_
    rintro e w' ⟨rfl, rfl⟩
    go_wp2
    go_ret
    exact ⟨_, rfl, Or.inl ⟨rfl, rfl⟩, fun g hg => (by cases hg), Mod.refl _ _⟩
  · have h1 := hide (cloneS_any g 0 xs.length c (scells xs) (scells_len xs) (by omega) (scells_one xs) w (by intro j u hj; simpa using hc j u hj))
    clear hblk hrow hc
    go_enter Tryz.func242, Tryz.ntmps242
    go_wp2_with fail
    refine h1.out.mono ?_
    rintro e w' ⟨v, rfl, hown, hm⟩
    have hfin : SamplesAt w' v xs := by
      rcases hown.2 with ⟨h0, h1⟩ | ⟨g, cap, cur, hv, _⟩
      · exact Or.inl ⟨h0, List.length_eq_zero_iff.1 h1⟩
      · subst hv
        exact Or.inr ⟨g, cap, rfl, row_cells hown⟩
    have hnew : ∀ g, v.ownBlock = some g → w.heap.size ≤ g := by
      intro g hg
      rcases hown.2 with ⟨h0, h1⟩ | ⟨g', cap, cur, hv, hb, _⟩
      · rw [h0] at hg; cases hg
      · subst hv; cases hg; exact hb
    clear hown
    replace hnew := hide hnew
    replace hfin := hide hfin
    replace hm := hide hm
    go_wp2
    go_ret
    exact ⟨_, rfl, hfin.out, hnew.out, hm.out⟩
theorem fadd_any (b rb : Nat) (sl : Value) (xs : List SampleS) (x : SampleS) (w : World) (h : StoreO w b rb sl xs) (hl : xs.length ≤ 8) (hne : b ≠ rb) (hns : ∀ g, sl.ownBlock = some g → g ≠ b) :
    Calls Tryz.prog 119 #[at0 b, x.val] w fun e w' =>
      (∃ r, e = .returned r) ∧ ∃ sl', StoreO w' b rb sl' (storeAdd xs x) ∧ Mod (ringOwn rb sl) w w' ∧ ∀ g, sl'.ownBlock = some g → sl.ownBlock = some g ∨ w.heap.size ≤ g := by
  have hlt := lt_of_block h.blk
  have k0 := cell_of_block h.blk 0 rfl
  have hlr : rb < w.heap.size := by obtain ⟨_, _, h⟩ := h.ring.blk; exact lt_of_block h
  have hc := fun (w5 : World) (hm : Mod NoB w w5) => ringadd_any rb sl xs x w5 (h.ring.mod hm id (fun _ _ => id)) hl
  replace h := hide h
  replace hns := hide hns
  replace hc := hide hc
  go_enter Tryz.func119, Tryz.ntmps119
  go_wp2_with fail
  go_region_with ((go_at_call 148; refine (hc.out _ (by first | exact ((Mod.refl _ _).alloc _).drew | exact ((Mod.refl _ _).alloc _).drewN _)).mono ?_; rintro e w5 ⟨rfl, sl', hro, hm, hown⟩; replace hro := hide hro; replace hm := hide hm; replace hown := hide hown))
  all_goals
    have hmm : Mod (ringOwn rb sl) w w5 := ((Mod.refl (ringOwn rb sl) w).alloc _).drew.trans hm.out
    have hfin : StoreO w5 b rb sl' (storeAdd xs x) := ⟨hmm.heap h.out.blk (fun hb => hb.elim hne (fun hs => hns.out b hs rfl)), hro.out⟩
    have hown2 : ∀ g, sl'.ownBlock = some g → sl.ownBlock = some g ∨ w.heap.size ≤ g := fun g hg => (hown.out g hg).imp id (fun h => Nat.le_trans (by simp) h)
    clear hm hro hown
    replace hmm := hide hmm
    replace hfin := hide hfin
    replace hown2 := hide hown2
    go_wp2_with fail
    go_ret
    exact ⟨⟨_, rfl⟩, sl', hfin.out, hmm.out, hown2.out⟩
theorem fall_any (b rb : Nat) (sl : Value) (xs : List SampleS) (w : World) (h : StoreO w b rb sl xs) (hl : xs.length ≤ 8) :
    Calls Tryz.prog 228 #[at0 b] w fun e w' => ∃ v, e = .returned v ∧ SamplesAt w' v xs ∧ (∀ g, v.ownBlock = some g → w.heap.size ≤ g) ∧ Mod NoB w w' := by
  have k0 := cell_of_block h.blk 0 rfl
  have h1 := hide (rall_any rb sl xs w h.ring hl)
  clear h
  go_enter Tryz.func228, Tryz.ntmps228
  go_wp2_with fail
  refine h1.out.mono ?_
  rintro e w' ⟨v, rfl, hs, hnew, hm⟩
  replace hs := hide hs
  replace hm := hide hm
  replace hnew := hide hnew
  go_wp2
  go_ret
  exact ⟨_, rfl, hs.out, hnew.out, hm.out⟩
end Go.Proofs.YtpjfiplejhbdfaaGreatDoor

