/- Lines that are built of words and blanks: plain Lean; rows of numbers handed in. -/
import Derived.Test.YthbaoocnnfnhnaaDoorLxN
import Derived.Test.YthbaoocnnfnhnaaDoorLxS
import Derived.Test.YthbaoocnnfnhnaaDoorKitSl
import Derived.Deep.Matrix
namespace Go.Proofs.YthbaoocnnfnhnaaDoor
open Go.RowKit Go.ChangeShapes Go.WideShapes Go.ChangeAt

/-- Texts, a byte 10 between. -/
def nl : List (List UInt8) → List UInt8
  | [] => []
  | [s] => s
  | s :: t :: r => s ++ 10 :: nl (t :: r)
theorem nl_cons {s : List UInt8} {r : List (List UInt8)} (h : r ≠ []) : nl (s :: r) = s ++ 10 :: nl r := by
  cases r with
  | nil => exact absurd rfl h
  | cons t r => rfl
theorem nl_new (L : List (List UInt8)) (s : List UInt8) : nl (L ++ [s]) ++ [10] = nl (L ++ [s] ++ [[]]) := by
  induction L with
  | nil => simp [nl]
  | cons t L ih => rw [List.cons_append, List.cons_append, nl_cons (by simp), nl_cons (by simp), ← ih]; simp
theorem nl_more (L : List (List UInt8)) (s x : List UInt8) : nl (L ++ [s]) ++ x = nl (L ++ [s ++ x]) := by
  induction L with
  | nil => simp [nl]
  | cons t L ih => rw [List.cons_append, List.cons_append, nl_cons (by simp), nl_cons (by simp), ← ih]; simp

/-- The lines that have words. -/
def linesOf (n : Nat) : List (List UInt8) → List (Nat × List (List UInt8))
  | [] => []
  | s :: r => (if 0 < (Lib.fields (upTo s 35)).length then [(n + 1, Lib.fields (upTo s 35))] else []) ++ linesOf (n + 1) r
theorem behind_of (m : Nat) : ∀ (L : List (List UInt8)) (n : Nat), behind m (linesOf n L) = linesOf (n + m) L := by
  intro L
  induction L with
  | nil => intro n; rfl
  | cons s L ih =>
    intro n
    rw [linesOf, linesOf, behind, List.map_append]
    have := ih (n + 1)
    rw [behind] at this
    rw [this, show n + 1 + m = n + m + 1 by omega]
    congr 1
    split
    · simp; omega
    · rfl
theorem lines_nl : ∀ (L : List (List UInt8)), L ≠ [] → (∀ s ∈ L, (10 : UInt8) ∉ s) → linesTo (nl L) (partsN 10 (nl L)) = linesOf 0 L
  | [], h, _ => absurd rfl h
  | [s], _, hs => by
    have h10 := hs s (by simp)
    show linesTo s (partsN 10 s) = _
    rw [(one_part h10).1, linesTo_one h10, linesOf, linesOf, List.append_nil]
  | s :: t :: r, _, hs => by
    have h10 := hs s (by simp)
    have ih := lines_nl (t :: r) (by simp) (fun x hx => hs x (by simp [hx]))
    rw [nl_cons (by simp), lines_join, ih, (one_part h10).1, linesTo_one h10, behind_of]
    rfl
theorem ok_nl : ∀ (L : List (List UInt8)), L ≠ [] → (∀ s ∈ L, (10 : UInt8) ∉ s ∧ (upTo s 35).all okB = true) → ∀ i, i < partsN 10 (nl L) → okLine (nl L) i = true
  | [], h, _ => absurd rfl h
  | [s], _, hs => by
    obtain ⟨h10, ho⟩ := hs s (by simp)
    intro i hi
    change i < partsN 10 s at hi
    rw [(one_part h10).1] at hi
    obtain rfl : i = 0 := by omega
    show okLine s 0 = true
    rw [okLine_one h10, ho]
  | s :: t :: r, _, hs => by
    obtain ⟨h10, ho⟩ := hs s (by simp)
    have ih := ok_nl (t :: r) (by simp) (fun x hx => hs x (by simp [hx]))
    rw [nl_cons (by simp)]
    refine ok_join (fun i hi => ?_) ih
    rw [(one_part h10).1] at hi
    obtain rfl : i = 0 := by omega
    rw [okLine_one h10, ho]

theorem fieldsGo_split {c : UInt8} (hc : Lib.isSp c = true) (b : List UInt8) : ∀ (a acc : List UInt8), Lib.fieldsGo acc (a ++ c :: b) = Lib.fieldsGo acc a ++ Lib.fieldsGo [] b := by
  intro a
  induction a with
  | nil => intro acc; rw [List.nil_append, go_sp hc, go_end]
  | cons x a ih =>
    intro acc
    rw [List.cons_append]
    cases hx : Lib.isSp x with
    | true => rw [go_sp hx, go_sp hx, ih, List.append_assoc]
    | false => rw [go_on hx, go_on hx, ih]
theorem fields_split {c : UInt8} (hc : Lib.isSp c = true) (a b : List UInt8) : Lib.fields (a ++ c :: b) = Lib.fields a ++ Lib.fields b := fieldsGo_split hc b a []
theorem fields_sp (x : List UInt8) : ∀ s : List UInt8, (∀ b ∈ s, Lib.isSp b = true) → Lib.fields (s ++ x) = Lib.fields x := by
  intro s
  induction s with
  | nil => intro _; rfl
  | cons c s ih =>
    intro h
    have := fieldsGo_split (h c (by simp)) (s ++ x) [] []
    rw [List.nil_append] at this
    show Lib.fieldsGo [] (c :: (s ++ x)) = _
    rw [this, go_end]
    exact ih (fun b hb => h b (by simp [hb]))

/-- What stands between words. -/
structure Blank (s : List UInt8) : Prop where
  ne : s ≠ []
  sp : ∀ b ∈ s, b = 32 ∨ b = 9
  len : s.length ≤ 3
theorem Blank.isSp {s : List UInt8} (h : Blank s) : ∀ b ∈ s, Lib.isSp b = true := fun b hb => by
  rcases h.sp b hb with rfl | rfl <;> rfl
theorem blank_word {cur s x : List UInt8} (hs : Blank s) : Lib.fields (cur ++ (s ++ x)) = Lib.fields cur ++ Lib.fields x := by
  obtain ⟨c, r, rfl⟩ : ∃ c r, s = c :: r := by
    cases s with
    | nil => exact absurd rfl hs.ne
    | cons c r => exact ⟨c, r, rfl⟩
  rw [List.cons_append, fields_split (hs.isSp c (by simp)), fields_sp x r (fun b hb => hs.isSp b (by simp [hb]))]

theorem dig_bytes {b : UInt8} (h : isDig b = true) : Lib.isSp b = false ∧ okB b = true ∧ b ≠ 10 ∧ b ≠ 35 := by
  have : ∀ n, n < 256 → isDig (UInt8.ofNat n) = true → Lib.isSp (UInt8.ofNat n) = false ∧ okB (UInt8.ofNat n) = true ∧ UInt8.ofNat n ≠ 10 ∧ UInt8.ofNat n ≠ 35 := by decide +kernel
  have h2 := this b.toNat b.toNat_lt
  rw [UInt8.ofNat_toNat] at h2
  exact h2 h

/-- A line so far: of words ws, no remark yet. -/
structure Cur (s : List UInt8) (ws : List (List UInt8)) : Prop where
  fields : Lib.fields s = ws
  ok : s.all okB = true
  no10 : (10 : UInt8) ∉ s
  no35 : (35 : UInt8) ∉ s
theorem Cur.nil : Cur [] [] := ⟨rfl, rfl, by simp, by simp⟩
theorem Blank.all {s : List UInt8} (h : Blank s) : s.all okB = true ∧ (10 : UInt8) ∉ s ∧ (35 : UInt8) ∉ s := by
  refine ⟨List.all_eq_true.2 fun b hb => ?_, fun hb => ?_, fun hb => ?_⟩
  · rcases h.sp b hb with rfl | rfl <;> rfl
  · rcases h.sp _ hb with h | h <;> exact absurd h (by decide)
  · rcases h.sp _ hb with h | h <;> exact absurd h (by decide)
theorem Cur.word {s b x : List UInt8} {ws : List (List UInt8)} (h : Cur s ws) (hb : Blank b) (hx : x ≠ []) (hd : x.all isDig = true) : Cur (s ++ (b ++ x)) (ws ++ [x]) := by
  have hd' := fun c hc => dig_bytes (List.all_eq_true.1 hd c hc)
  refine ⟨by rw [blank_word hb, h.fields, fields_word x (fun c hc => (hd' c hc).1) hx], ?_, ?_, ?_⟩
  · rw [List.all_append, List.all_append, h.ok, hb.all.1]
    simp only [Bool.true_and]
    exact List.all_eq_true.2 fun c hc => (hd' c hc).2.1
  · simp only [List.mem_append, not_or]
    exact ⟨h.no10, hb.all.2.1, fun hc => (hd' _ hc).2.2.1 rfl⟩
  · simp only [List.mem_append, not_or]
    exact ⟨h.no35, hb.all.2.2, fun hc => (hd' _ hc).2.2.2 rfl⟩
/-- A line that is done. -/
structure Done (s : List UInt8) (ws : List (List UInt8)) : Prop where
  fields : Lib.fields (upTo s 35) = ws
  ok : (upTo s 35).all okB = true
  no10 : (10 : UInt8) ∉ s
theorem Cur.done {s : List UInt8} {ws : List (List UInt8)} (h : Cur s ws) : Done s ws := by
  have := upTo_all h.no35
  exact ⟨by rw [this]; exact h.fields, by rw [this]; exact h.ok, h.no10⟩
def remarkL : List UInt8 := [35, 32, 110, 111, 116, 1, 32, 116, 104, 105, 115]
theorem Cur.remark {s b : List UInt8} {ws : List (List UInt8)} (h : Cur s ws) (hb : Blank b) : Done (s ++ (b ++ remarkL)) ws := by
  have hup : upTo (s ++ (b ++ remarkL)) 35 = s ++ b := by
    rw [← List.append_assoc]
    show upTo ((s ++ b) ++ 35 :: [32, 110, 111, 116, 1, 32, 116, 104, 105, 115]) 35 = _
    rw [remark_bare]
    exact upTo_all (by simp only [List.mem_append, not_or]; exact ⟨h.no35, hb.all.2.2⟩)
  refine ⟨?_, ?_, ?_⟩
  · rw [hup]
    have := blank_word (cur := s) (x := []) hb
    rw [List.append_nil] at this
    rw [this, h.fields]
    exact List.append_nil _
  · rw [hup, List.all_append, h.ok, hb.all.1]; rfl
  · simp only [List.mem_append, not_or]
    exact ⟨h.no10, hb.all.2.1, by decide⟩

/-- Rows of numbers. -/
def RowsAt (k : IntKind) (w : World) (p : Option Addr) (n : Nat) (R : Nat → List Int) : Prop :=
  ∀ i, i < n → ∃ b off q c, p = some ⟨b, off, none⟩ ∧ b < w.heap.size ∧ w.cell? ⟨b, off + i, none⟩ = some (.slice q (R i).length c) ∧ (R i).length ≤ c ∧ c ≤ 9223372036854775807 ∧
    ∀ j, j < (R i).length → ∃ d o, q = some ⟨d, o, none⟩ ∧ d < w.heap.size ∧ w.cell? ⟨d, o + j, none⟩ = some (.int k ((R i).getD j 0)) ∧ (Lit.int k ((R i).getD j 0)).wf = true

theorem open_rowsAt {H : Type} {enc : TypeId × Value → H} {P : Program} {W : World} {t e q : TypeId} {v : Value} {d : DataW H} {ps : List MemPlace} {base : Nat} {r : Reach} {k : IntKind}
    (ht : P.underlying t = some (.slice e)) (he : P.underlying e = some (.slice q)) (hq : P.underlying q = some (.int k)) (ce : P.cellsOf e = 1) (cq : P.cellsOf q = 1) (hv : Value.okWide P W r base t v)
    (h : DataW.Trod enc P W 0 (fun _ => true) true t v d ps) :
    ∃ x n cap R, v = .slice x n cap ∧ n ≤ cap ∧ cap ≤ 9223372036854775807 ∧ RowsAt k W x n R := by
  obtain ⟨a0, len, cap, rfl⟩ := okWide_slice ht hv
  obtain ⟨fuel, hf⟩ := h
  rcases Go.Deep.open_int_rows ht he hq ce cq hf with ⟨hcs, hx⟩ | ⟨a, len', cap', A, L, C, Z, hcs, _, hl, hm, hx, hrow⟩
  · simp [Value.cells] at hcs
    obtain ⟨rfl, rfl, rfl⟩ := hcs
    exact ⟨none, 0, 0, fun _ => [], rfl, Nat.le_refl _, by omega, fun i hi => by omega⟩
  · simp [Value.cells] at hcs
    obtain ⟨rfl, rfl, rfl⟩ := hcs
    unfold maxLen at hm
    refine ⟨some a, len, cap, fun i => (Z i).take (L i), rfl, hl, by omega, fun i hi => ?_⟩
    obtain ⟨h0, h1, h2, h3, h4, h5, h6⟩ := hrow i (by omega)
    unfold maxLen at h2
    obtain ⟨b, off, spot⟩ := a
    have hspot : spot = none := by simpa [Addr.add] using World.cell?_spot (hrow 0 (by omega)).1
    subst hspot
    rw [Go.WideShapes.add_plain] at h0
    have hll : ((Z i).take (L i)).length = L i := by simp; omega
    refine ⟨b, off, A i, C i, rfl, ?_, ?_, by rw [hll]; exact h1, by omega, fun j hj => ?_⟩
    · exact World.block_lt_of_cell? W _ h0
    · rw [hll]; exact h0
    · rw [hll] at hj
      cases hA : A i with
      | none => have := h5 hA; omega
      | some a' =>
        obtain ⟨d', o', spot'⟩ := a'
        have hc := (h6 _ hA).2 j (by omega)
        have hspot' : spot' = none := by simpa [Addr.add] using World.cell?_spot ((h6 _ hA).2 0 (by omega))
        subst hspot'
        rw [Go.WideShapes.add_plain] at hc
        have hg : ((Z i).take (L i)).getD j 0 = (Z i).getD j 0 := by simp [List.getD, List.getElem?_take_of_lt hj]
        refine ⟨d', o', rfl, World.block_lt_of_cell? W _ hc, ?_, ?_⟩
        · rw [hg]; exact hc
        · rw [hg]
          have hjz : j < (Z i).length := by omega
          have : (Z i).getD j 0 = (Z i)[j] := by simp [List.getD, hjz]
          rw [this]
          exact h4 _ (List.getElem_mem hjz)
end Go.Proofs.YthbaoocnnfnhnaaDoor
