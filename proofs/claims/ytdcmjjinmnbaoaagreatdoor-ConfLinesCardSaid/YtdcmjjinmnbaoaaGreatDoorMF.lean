/- A config's text is read as the config, whatever order its lines stand in: plain Lean. A config's text with a line behind it: plain Lean; configs of very many servers. -/
import Derived.Test.YtdcmjjinmnbaoaaGreatDoorMD
import Derived.Test.YtdcmjjinmnbaoaaGreatDoorME
namespace Go.Proofs.YtdcmjjinmnbaoaaGreatDoor
open Go.RowKit

/-- A line of a config: a word's number, its numbers. -/
abbrev Item := Nat × List Int
def wordsI (it : Item) : List (List UInt8) := keyW it.1 :: it.2.map textOf
def textI (it : Item) : List UInt8 := lineB (keyW it.1) it.2
structure ItemOk (it : Item) : Prop where
  k5 : it.1 < 5
  many : (it.2.length : Int) = manyW it.1
  num : ∀ x ∈ it.2, 0 ≤ x ∧ x ≤ 1000000000

theorem key_cur : ∀ k, k < 5 → Lib.fields (keyW k) = [keyW k] ∧ (keyW k).all okB = true ∧ (10 : UInt8) ∉ keyW k ∧ (35 : UInt8) ∉ keyW k := by decide +kernel
theorem text_dig {x : Int} (h0 : 0 ≤ x) (h1 : x ≤ 1000000000) : textOf x ≠ [] ∧ (textOf x).all isDig = true := by
  refine ⟨text_ne h0 h1, ?_⟩
  have h := numR_text h0 h1
  unfold numR at h
  split at h
  · rename_i hn
    unfold numB at hn
    simp only [Bool.and_eq_true] at hn
    exact hn.1.2
  · simp at h
theorem sp_blank : Blank [32] := ⟨by simp, by simp, by simp⟩
theorem cur_nums : ∀ (xs : List Int) (s : List UInt8) (ws : List (List UInt8)), Cur s ws → (∀ x ∈ xs, 0 ≤ x ∧ x ≤ 1000000000) → Cur (s ++ numsT xs) (ws ++ xs.map textOf) := by
  intro xs
  induction xs with
  | nil => intro s ws h _; simpa [numsT] using h
  | cons x xs ih =>
    intro s ws h hx
    obtain ⟨h0, h1⟩ := hx x (by simp)
    obtain ⟨d0, d1⟩ := text_dig h0 h1
    have := ih _ _ (h.word sp_blank d0 d1) (fun y hy => hx y (by simp [hy]))
    simpa [numsT] using this
theorem item_cur {it : Item} (h : ItemOk it) : Cur (textI it) (wordsI it) := by
  obtain ⟨a, b, c, d⟩ := key_cur it.1 h.k5
  have := cur_nums it.2 (keyW it.1) [keyW it.1] ⟨a, b, c, d⟩ h.num
  simpa [textI, lineB, wordsI] using this

theorem nums_text : ∀ (xs : List Int), (∀ x ∈ xs, 0 ≤ x ∧ x ≤ 1000000000) → numsE (xs.map textOf) = 0 ∧ (xs.map textOf).map (fun s => (numR s).1) = xs := by
  intro xs
  induction xs with
  | nil => intro _; exact ⟨rfl, rfl⟩
  | cons x xs ih =>
    intro h
    obtain ⟨h0, h1⟩ := h x (by simp)
    obtain ⟨a, b⟩ := ih (fun y hy => h y (by simp [hy]))
    have hn := numR_text h0 h1
    refine ⟨?_, ?_⟩
    · rw [List.map_cons, numsE, if_pos (by rw [hn]), a]
    · rw [List.map_cons, List.map_cons, b, hn]
/-- What an item does. -/
def applyI (it : Item) (st : St) : Int × St :=
  if st.2 it.1 = true ∧ it.1 ≠ 0 then (12, st) else takeR it.1 it.2 (st.1, upd st.2 it.1 true)
theorem lineR_item {it : Item} (h : ItemOk it) (st : St) : lineR (wordsI it) st = applyI it st := by
  obtain ⟨a, b⟩ := nums_text it.2 h.num
  have hk : keyOf ((wordsI it).getD 0 []) = some it.1 := by simpa [wordsI] using keyOf_keyW h.k5
  have hd : (wordsI it).drop 1 = it.2.map textOf := rfl
  have hl : ((wordsI it).length : Int) = 1 + manyW it.1 := by rw [← h.many]; simp [wordsI]; omega
  unfold lineR
  rw [hk]
  show lineK it.1 (wordsI it) st = _
  unfold lineK
  rw [if_neg (by rw [hl]; simp), hd, if_neg (by rw [a]; simp), b]
  rfl

/-- The state behind items that are all taken. -/
inductive Runs : List Item → St → St → Prop
  | nil (st : St) : Runs [] st st
  | cons {it : Item} {l : List Item} {st st' st'' : St} (hi : ItemOk it) (h : applyI it st = (0, st')) (t : Runs l st' st'') : Runs (it :: l) st st''
theorem Runs.app {l m : List Item} {a b c : St} (h : Runs l a b) (k : Runs m b c) : Runs (l ++ m) a c := by
  induction h with
  | nil st => exact k
  | cons hi h t ih => exact .cons hi h (ih k)
theorem Runs.ok {l : List Item} {a b : St} (h : Runs l a b) : ∀ it ∈ l, ItemOk it := by
  induction h with
  | nil st => intro it h; cases h
  | cons hi h t ih =>
    intro it hit
    rcases List.mem_cons.1 hit with rfl | h
    · exact hi
    · exact ih it h
/-- Items' lines behind n lines. -/
def numI : Nat → List Item → List (Nat × List (List UInt8))
  | _, [] => []
  | n, it :: r => (n + 1, wordsI it) :: numI (n + 1) r
theorem Runs.lines {l : List Item} {st st' : St} (h : Runs l st st') : ∀ n, linesR (numI n l) st = (0, 0, st') := by
  induction h with
  | nil st => intro n; rfl
  | cons hi h t ih =>
    intro n
    have := lineR_item hi
    rw [numI, linesR_ok (by rw [this, h]), this, h]
    exact ih _
theorem Runs.then {l : List Item} {st st' : St} (h : Runs l st st') (n : Nat) (R : List (Nat × List (List UInt8))) : linesR (numI n l ++ R) st = linesR R st' := by
  rw [linesR_app _ _ _ (by rw [h.lines]), h.lines]
theorem linesOf_items : ∀ (l : List Item) (n : Nat) (R : List (List UInt8)), (∀ it ∈ l, ItemOk it) → linesOf n (l.map textI ++ R) = numI n l ++ linesOf (n + l.length) R := by
  intro l
  induction l with
  | nil => intro n R _; rfl
  | cons it l ih =>
    intro n R h
    obtain ⟨hf, _, _⟩ := (item_cur (h it (by simp))).done
    rw [List.map_cons, List.cons_append, linesOf, hf, if_pos (by simp [wordsI]), ih (n + 1) R (fun x hx => h x (by simp [hx])), numI]
    simp only [List.cons_append, List.nil_append, List.length_cons]
    rw [show n + 1 + l.length = n + (l.length + 1) by omega]

theorem apply_srv {a : Cfg} {s : Nat → Bool} {x : Int} (h1 : inI a.srv x = false) (h2 : a.srv.length ≠ 16) : applyI (0, [x]) (a, s) = (0, ({ a with srv := a.srv ++ [x] }, upd s 0 true)) := by
  unfold applyI
  rw [if_neg (by simp)]
  unfold takeR
  rw [if_pos rfl]
  simp only [List.getD_cons_zero]
  rw [if_neg (by rw [h1]; simp), if_neg h2]
theorem upd_upd (s : Nat → Bool) (k : Nat) (b : Bool) : upd (upd s k b) k b = upd s k b := by
  funext j; unfold upd; split <;> rfl
theorem srv_item {x : Int} (h : 1 ≤ x ∧ x ≤ 65535) : ItemOk (0, [x]) := ⟨by simp, rfl, by simp; omega⟩
/-- Numbers that may be servers' together. -/
def SrvOk (xs : List Int) : Prop := xs.Nodup ∧ xs.length ≤ 16 ∧ ∀ x ∈ xs, 1 ≤ x ∧ x ≤ 65535
def markS (s : Nat → Bool) (xs : List Int) : Nat → Bool := if xs = [] then s else upd s 0 true
def srvI (xs : List Int) : List Item := xs.map fun x => (0, [x])
theorem inI_mem {xs : List Int} {x : Int} : inI xs x = true ↔ x ∈ xs := by unfold inI; rw [List.contains_eq_mem]; simp
theorem inI_not {xs : List Int} {x : Int} (h : x ∉ xs) : inI xs x = false := by
  cases hi : inI xs x with
  | false => rfl
  | true => exact absurd (inI_mem.1 hi) h
theorem runs_srv : ∀ (xs : List Int) (a : Cfg) (s : Nat → Bool), SrvOk (a.srv ++ xs) → Runs (srvI xs) (a, s) ({ a with srv := a.srv ++ xs }, markS s xs) := by
  intro xs
  induction xs with
  | nil =>
    intro a s _
    have : ({ a with srv := a.srv ++ [] } : Cfg) = a := by simp
    rw [this]
    exact .nil _
  | cons x xs ih =>
    intro a s h
    obtain ⟨hn, hl, hr⟩ := h
    have hno : inI a.srv x = false := inI_not (fun hm => (List.nodup_append.1 hn).2.2 x hm x (by simp) rfl)
    have hlen : a.srv.length ≠ 16 := by simp at hl; omega
    have hstep := apply_srv (s := s) hno hlen
    have hx := hr x (by simp)
    have := ih { a with srv := a.srv ++ [x] } (upd s 0 true) ⟨by simpa using hn, by simpa using hl, by simpa using hr⟩
    have e2 : markS (upd s 0 true) xs = markS s (x :: xs) := by
      unfold markS
      split
      · rw [if_neg (by simp)]
      · rw [if_neg (by simp), upd_upd]
    refine .cons (srv_item hx) hstep ?_
    rw [e2] at this
    simpa [srvI] using this
theorem apply_put {a : Cfg} {s : Nat → Bool} {k : Nat} {xs : List Int} (h0 : k ≠ 0) (hs : s k = false) : applyI (k, xs) (a, s) = (0, (putF a k xs, upd s k true)) := by
  unfold applyI
  rw [if_neg (by simp [hs])]
  unfold takeR
  rw [if_neg h0]

def putI (a : Cfg) : List Item := [(1, [a.q]), (2, [a.l, a.m]), (3, [a.d]), (4, [a.s])]
/-- Numbers that a config's text may bear. -/
structure NumOk (a : Cfg) : Prop where
  q : 0 ≤ a.q ∧ a.q ≤ 1000000000
  l : 0 ≤ a.l ∧ a.l ≤ 1000000000
  m : 0 ≤ a.m ∧ a.m ≤ 1000000000
  d : 0 ≤ a.d ∧ a.d ≤ 1000000000
  s : 0 ≤ a.s ∧ a.s ≤ 1000000000
theorem putI_ok {a : Cfg} (h : NumOk a) : ∀ it ∈ putI a, ItemOk it := by
  intro it hit
  simp only [putI, List.mem_cons, List.not_mem_nil, or_false] at hit
  rcases hit with rfl | rfl | rfl | rfl
  · exact ⟨by simp, rfl, by simpa using h.q⟩
  · exact ⟨by simp, rfl, by simpa using ⟨h.l, h.m⟩⟩
  · exact ⟨by simp, rfl, by simpa using h.d⟩
  · exact ⟨by simp, rfl, by simpa using h.s⟩
def seenP (s : Nat → Bool) : Nat → Bool := upd (upd (upd (upd s 1 true) 2 true) 3 true) 4 true
theorem runs_put {a c : Cfg} {s : Nat → Bool} (h : NumOk a) (hs : ∀ k, 0 < k → k < 5 → s k = false) : Runs (putI a) (c, s) ({ a with srv := c.srv }, seenP s) := by
  have ok := putI_ok h
  have h1 := hs 1 (by omega) (by omega)
  have h2 := hs 2 (by omega) (by omega)
  have h3 := hs 3 (by omega) (by omega)
  have h4 := hs 4 (by omega) (by omega)
  refine .cons (ok _ (by simp [putI])) (apply_put (by decide) h1) (.cons (ok _ (by simp [putI])) (apply_put (by decide) (by rw [upd_ne _ _ (by decide)]; exact h2))
    (.cons (ok _ (by simp [putI])) (apply_put (by decide) (by rw [upd_ne _ _ (by decide), upd_ne _ _ (by decide)]; exact h3)) (.cons (ok _ (by simp [putI])) (apply_put (by decide) (by rw [upd_ne _ _ (by decide), upd_ne _ _ (by decide), upd_ne _ _ (by decide)]; exact h4)) ?_)))
  exact .nil _

theorem nodup_pre {xs : List Int} (h : ∀ k, k < xs.length → inI (xs.take k) (xs.getD k 0) = false) : xs.Nodup := by
  rw [List.nodup_iff_pairwise_ne, List.pairwise_iff_getElem]
  intro i j hi hj hij e
  have h1 := h j hj
  have h2 : inI (xs.take j) (xs.getD j 0) = true := by
    rw [inI_mem, List.mem_iff_getElem]
    refine ⟨i, by simp; omega, ?_⟩
    rw [List.getElem_take, e]
    simp [List.getD, hj]
  rw [h1] at h2
  cases h2
theorem fine_srv {a : Cfg} (h : Fine a.srv a.q a.l a.m a.d a.s) : SrvOk a.srv := by
  have hp := srvErr_pre h.srv
  refine ⟨nodup_pre fun k hk => (hp k hk).2.2, h.few, fun x hx => ?_⟩
  obtain ⟨k, hk, rfl⟩ := List.getElem_of_mem hx
  have := hp k hk
  have e : a.srv.getD k 0 = a.srv[k] := by simp [List.getD, hk]
  rw [e] at this
  exact ⟨this.1, this.2.1⟩
theorem fine_num {a : Cfg} (h : Fine a.srv a.q a.l a.m a.d a.s) : NumOk a := by
  obtain ⟨⟨h1, h2⟩, ⟨h3, h4⟩, ⟨h5, h6⟩, ⟨h7, h8⟩, ⟨h9, h10⟩⟩ := fine_nums h
  have := h.few
  exact ⟨⟨by omega, by omega⟩, ⟨by omega, by omega⟩, ⟨by omega, by omega⟩, ⟨by omega, by omega⟩, ⟨by omega, by omega⟩⟩
theorem srvErr_ok {xs : List Int} (h : SrvOk xs) : ∀ n, n ≤ xs.length → srvErr xs n = 0 := by
  obtain ⟨hn, hl, hr⟩ := h
  intro n
  induction n with
  | zero => intro _; rfl
  | succ n ih =>
    intro hnl
    have hlt : n < xs.length := by omega
    have e : xs.getD n 0 = xs[n] := by simp [List.getD, hlt]
    refine srv_fine (ih (by omega)) ?_ ?_
    · have := hr xs[n] (List.getElem_mem _)
      rw [e]
      simp [inB3]; omega
    · refine inI_not fun hm => ?_
      rw [e, List.mem_iff_getElem] at hm
      obtain ⟨i, hi, he⟩ := hm
      rw [List.getElem_take] at he
      rw [List.nodup_iff_pairwise_ne, List.pairwise_iff_getElem] at hn
      simp at hi
      exact hn i n (by omega) hlt (by omega) he
theorem check_ok {xs : List Int} {q l m d s : Int} (h0 : xs ≠ []) (h : SrvOk xs) (hn : numErr xs.length q l m d s = 0) : checkR xs q l m d s = 0 := by
  have hl : xs.length ≠ 0 := by simpa using h0
  rw [check_num hl (by have := h.2.1; omega) (srvErr_ok h _ (Nat.le_refl _)), hn]

/-- Every line of a config, in the order of its text. -/
def itemsC (a : Cfg) : List Item := srvI a.srv ++ putI a
theorem bodyC_items (a : Cfg) : bodyC a = (itemsC a).map textI := by
  simp [bodyC, itemsC, srvI, putI, textI]
theorem fine_items {a : Cfg} (h : Fine a.srv a.q a.l a.m a.d a.s) : ∀ it ∈ itemsC a, ItemOk it := by
  intro it hit
  rcases List.mem_append.1 hit with h1 | h1
  · obtain ⟨x, hx, rfl⟩ := List.mem_map.1 h1
    exact srv_item ((fine_srv h).2.2 x hx)
  · exact putI_ok (fine_num h) it h1
theorem cfg_eta (a : Cfg) : (⟨a.srv, a.q, a.l, a.m, a.d, a.s⟩ : Cfg) = a := by cases a; rfl
/-- What stands behind all lines of a config. -/
theorem runs_all {a : Cfg} (h : Fine a.srv a.q a.l a.m a.d a.s) : Runs (itemsC a) st0 (a, seenP (upd (fun _ => false) 0 true)) := by
  have hne : a.srv ≠ [] := by intro e; have := h.some_; rw [e] at this; simp at this
  have h1 := runs_srv a.srv cfg0 (fun _ => false) (by simpa [cfg0] using fine_srv h)
  have h2 := runs_put (a := a) (c := { cfg0 with srv := cfg0.srv ++ a.srv }) (s := markS (fun _ => false) a.srv) (fine_num h) (by
    intro k k0 k5
    unfold markS
    rw [if_neg hne, upd_ne _ _ (by omega)])
  have := h1.app h2
  unfold markS at this
  rw [if_neg hne] at this
  exact this
theorem seenP_all : seenAll (seenP (upd (fun _ => false) 0 true)) = true := by decide

/-- Lines that are done, and what their words are. -/
theorem parse_done {L : List (List UInt8)} (hne : L ≠ []) (hd : ∀ s ∈ L, ∃ ws, Done s ws) (hl : (nl L).length ≤ 65536) : parseR (nl L) = endR (linesR (linesOf 0 L) st0) := by
  have h10 : ∀ s ∈ L, (10 : UInt8) ∉ s := fun s hs => let ⟨_, h⟩ := hd s hs; h.no10
  rw [parseR_lines (by omega) (badAt_none (ok_nl L hne (fun s hs => let ⟨_, h⟩ := hd s hs; ⟨h.no10, h.ok⟩))), lines_nl L hne h10]
theorem done_nil : Done [] [] := Cur.nil.done
theorem items_done {l : List Item} (h : ∀ it ∈ l, ItemOk it) : ∀ s ∈ l.map textI, ∃ ws, Done s ws := by
  intro s hs
  obtain ⟨it, hit, rfl⟩ := List.mem_map.1 hs
  exact ⟨_, (item_cur (h it hit)).done⟩
theorem ends_len (L : List (List UInt8)) : (nl L).length ≤ (ends L).length := by
  induction L with
  | nil => simp [nl]
  | cons s L ih =>
    cases L with
    | nil => simp [nl, ends]
    | cons t L => rw [nl_cons (by simp), ends]; simp at ih ⊢; omega
theorem printT_len {a : Cfg} (h : Fine a.srv a.q a.l a.m a.d a.s) : (printT a.srv a.q a.l a.m a.d a.s).length ≤ 500 := by
  have h1 := srvT_len a.srv
  have h2 := h.few
  have l1 := lineT_len [113, 117, 111, 114, 117, 109] [a.q]
  have l2 := lineT_len [112, 111, 108, 108] [a.l, a.m]
  have l3 := lineT_len [100, 101, 108, 97, 121] [a.d]
  have l4 := lineT_len [115, 108, 101, 119] [a.s]
  simp [printT] at l1 l2 l3 l4 ⊢
  omega
/-- A config is parsed of its own text. -/
theorem parse_print {a : Cfg} (h : checkC a = 0) : parseR (printT a.srv a.q a.l a.m a.d a.s) = (a, 0, 0) := by
  have hf := check_fine h
  have hl := printT_len hf
  have e : printT a.srv a.q a.l a.m a.d a.s = nl ((itemsC a).map textI ++ [[]]) := by
    rw [printT_ends, bodyC_items, ← ends_nl, List.append_nil]
  rw [e] at hl ⊢
  rw [parse_done (by simp) (by
    intro s hs
    rcases List.mem_append.1 hs with h1 | h1
    · exact items_done (fine_items hf) s h1
    · simp at h1; subst h1; exact ⟨_, done_nil⟩) (by omega), linesOf_items _ _ _ (fine_items hf), (runs_all hf).then]
  have e2 : linesOf (0 + (itemsC a).length) [[]] = [] := by simp [linesOf, Lib.fields, upTo, Lib.fieldsGo]
  rw [e2]
  exact endR_ok (x := (0, 0, (a, _))) rfl seenP_all h
/-- What a text is parsed as may be. -/
theorem parse_cases (l : List UInt8) : ((parseR l).2.2 = 0 ∧ (parseR l).2.1 = 0 ∧ checkC (parseR l).1 = 0) ∨ ((parseR l).2.2 ≠ 0 ∧ (parseR l).1 = cfg0 ∧ 0 ≤ (parseR l).2.1) := by
  have hn : ∀ (L : List (Nat × List (List UInt8))) (st : St), 0 ≤ (linesR L st).1 := by
    intro L
    induction L with
    | nil => intro st; exact Int.le_refl _
    | cons x L ih =>
      intro st
      obtain ⟨n, ws⟩ := x
      rw [linesR]
      split
      · exact ih _
      · exact Int.natCast_nonneg _
  unfold parseR
  split
  · exact Or.inr ⟨by simp, rfl, by simp⟩
  · split
    · exact Or.inr ⟨by simp, rfl, Int.natCast_nonneg _⟩
    · rename_i hb
      have h0 := hn (linesTo l (partsN 10 l)) st0
      generalize linesR (linesTo l (partsN 10 l)) st0 = x at h0
      unfold endR
      split
      · rename_i h; exact Or.inr ⟨h, rfl, h0⟩
      · split
        · exact Or.inr ⟨by simp, rfl, by simp⟩
        · split
          · rename_i h; exact Or.inr ⟨h, rfl, by simp⟩
          · rename_i h; exact Or.inl ⟨rfl, rfl, by simpa using h⟩
end Go.Proofs.YtdcmjjinmnbaoaaGreatDoor
namespace Go.Proofs.YtdcmjjinmnbaoaaGreatDoor
open Go.RowKit

theorem nl_parts : ∀ (L : List (List UInt8)), L ≠ [] → (∀ s ∈ L, (10 : UInt8) ∉ s) → partsN 10 (nl L) = L.length ∧ ∀ i, i < L.length → partF 10 (nl L) i = L.getD i []
  | [], h, _ => absurd rfl h
  | [s], _, hs => by
    have h10 := hs s (by simp)
    refine ⟨(one_part h10).1, fun i hi => ?_⟩
    obtain rfl : i = 0 := by simpa using hi
    exact (one_part h10).2
  | s :: t :: r, _, hs => by
    have h10 := hs s (by simp)
    obtain ⟨ih1, ih2⟩ := nl_parts (t :: r) (by simp) (fun x hx => hs x (by simp [hx]))
    rw [nl_cons (by simp)]
    refine ⟨by rw [parts_join, (one_part h10).1, ih1]; simp; omega, fun i hi => ?_⟩
    cases i with
    | zero =>
      rw [part_low (by rw [(one_part h10).1]; omega), (one_part h10).2]
      rfl
    | succ i =>
      have := part_high (a := s) (b := nl (t :: r)) i
      rw [(one_part h10).1] at this
      rw [Nat.add_comm i 1, this, ih2 i (by simpa using hi), Nat.add_comm 1 i, List.getD_cons_succ]
theorem nl_ok {L : List (List UInt8)} (h0 : L ≠ []) (hs : ∀ s ∈ L, (10 : UInt8) ∉ s) {i : Nat} (hi : i < L.length) : okLine (nl L) i = (upTo (L.getD i []) 35).all okB := by
  unfold okLine bare
  rw [(nl_parts L h0 hs).2 i hi]

/-- A config's text, and a line behind it. -/
def tailR (a : Cfg) (x : List UInt8) : Cfg × Int × Int :=
  if (upTo x 35).all okB = false then (cfg0, (((itemsC a).length + 1 : Nat) : Int), 6) else endR (linesR (linesOf (itemsC a).length [x]) (a, seenP (upd (fun _ => false) 0 true)))
theorem parse_tail {a : Cfg} (h : checkC a = 0) {x : List UInt8} (hx : (10 : UInt8) ∉ x) (hl : x.length ≤ 1000) : parseR (printT a.srv a.q a.l a.m a.d a.s ++ x) = tailR a x := by
  have hf := check_fine h
  have hpl := printT_len hf
  have e : printT a.srv a.q a.l a.m a.d a.s ++ x = nl ((itemsC a).map textI ++ [x]) := by rw [printT_ends, bodyC_items, ← ends_nl]
  have hlen : (nl ((itemsC a).map textI ++ [x])).length ≤ 65536 := by rw [← e]; simp; omega
  have hdi := items_done (fine_items hf)
  have h10 : ∀ s ∈ (itemsC a).map textI ++ [x], (10 : UInt8) ∉ s := by
    intro s hs
    rcases List.mem_append.1 hs with h1 | h1
    · obtain ⟨ws, hd⟩ := hdi s h1; exact hd.no10
    · simp at h1; subst h1; exact hx
  rw [e]
  unfold tailR
  cases hb : (upTo x 35).all okB with
  | true =>
    rw [if_neg (by simp), parse_done (by simp) (by
      intro s hs
      rcases List.mem_append.1 hs with h1 | h1
      · exact hdi s h1
      · simp at h1; subst h1; exact ⟨_, ⟨rfl, hb, hx⟩⟩) hlen, linesOf_items _ _ _ (fine_items hf), (runs_all hf).then, Nat.zero_add]
  | false =>
    rw [if_pos rfl]
    refine parseR_bad (by omega) (badAt_some ?_ ?_ ?_)
    · rw [(nl_parts _ (by simp) h10).1]; simp
    · rw [nl_ok (by simp) h10 (by simp)]
      simpa [List.getD] using hb
    · intro i hi
      rw [nl_ok (by simp) h10 (by simp; omega)]
      have hg : ((itemsC a).map textI ++ [x]).getD i [] ∈ (itemsC a).map textI := by
        have : i < ((itemsC a).map textI).length := by simpa using hi
        simp only [List.getD, List.getElem?_append_left this, List.getElem?_eq_getElem this, Option.getD_some]
        exact List.getElem_mem _
      obtain ⟨ws, hd⟩ := hdi _ hg
      exact hd.ok
theorem tail_line (a : Cfg) (x : List UInt8) : (tailR a x).2.2 = 0 ∨ (tailR a x).2.1 = (((itemsC a).length + 1 : Nat) : Int) ∨ (tailR a x).2.1 = 0 := by
  unfold tailR
  split
  · exact Or.inr (Or.inl rfl)
  · unfold endR
    split
    · rename_i h
      right; left
      show (linesR (linesOf (itemsC a).length [x]) _).1 = _
      unfold linesOf linesOf at h ⊢
      split at h
      · rename_i h0
        rw [if_pos h0]
        simp only [List.cons_append, List.nil_append] at h ⊢
        by_cases h1 : (lineR (Lib.fields (upTo x 35)) (a, seenP (upd (fun _ => false) 0 true))).1 = 0
        · rw [linesR_ok h1] at h; exact absurd rfl h
        · rw [linesR_bad h1]
      · exact absurd rfl h
    · split
      · exact Or.inr (Or.inr rfl)
      · split
        · exact Or.inr (Or.inr rfl)
        · exact Or.inl rfl

/-- Lines that may not be behind a config's. -/
def badS (i : Nat) : List UInt8 := [[119, 104, 97, 116, 32, 55], [113, 117, 111, 114, 117, 109, 32, 49], [115, 101, 114, 118, 101, 114], [115, 108, 101, 119, 32, 49, 32, 50], [100, 101, 108, 97, 121, 32, 120]].getD i []
def badE (i : Nat) : Int := [10, 12, 6, 6, 6].getD i 0
theorem badS_text : ∀ i, i < 5 → (10 : UInt8) ∉ badS i ∧ (badS i).length ≤ 10 ∧ (upTo (badS i) 35).all okB = true ∧ 0 < (Lib.fields (upTo (badS i) 35)).length ∧ badE i ≠ 0 := by decide +kernel
theorem badS_line (a : Cfg) : ∀ i, i < 5 → (lineR (Lib.fields (upTo (badS i) 35)) (a, seenP (upd (fun _ => false) 0 true))).1 = badE i := by
  intro i hi
  rcases bounds5 i hi with rfl | rfl | rfl | rfl | rfl <;> rfl
theorem tail_bad (a : Cfg) {i : Nat} (hi : i < 5) : tailR a (badS i) = (cfg0, (((itemsC a).length + 1 : Nat) : Int), badE i) := by
  obtain ⟨_, _, h1, h2, h3⟩ := badS_text i hi
  unfold tailR linesOf linesOf
  rw [if_neg (by simp [h1]), if_pos h2]
  simp only [List.cons_append, List.nil_append]
  rw [linesR_bad (by rw [badS_line a i hi]; exact h3), endR_err (by show (lineR _ _).1 ≠ 0; rw [badS_line a i hi]; exact h3)]
  show (cfg0, _, (lineR _ _).1) = _
  rw [badS_line a i hi]

theorem count_ends : ∀ (L : List (List UInt8)), (∀ s ∈ L, (10 : UInt8) ∉ s) → (ends L).count 10 = L.length := by
  intro L
  induction L with
  | nil => intro _; rfl
  | cons s L ih =>
    intro h
    rw [ends, List.count_append, List.count_eq_zero.mpr (h s (by simp)), List.count_cons_self, ih (fun x hx => h x (by simp [hx]))]
    simp
theorem printT_count {a : Cfg} (h : checkC a = 0) : (printT a.srv a.q a.l a.m a.d a.s).count 10 = (itemsC a).length := by
  have hf := check_fine h
  rw [printT_ends, bodyC_items, count_ends _ (fun s hs => by obtain ⟨ws, hd⟩ := items_done (fine_items hf) s hs; exact hd.no10)]
  simp
theorem items_len (a : Cfg) : (itemsC a).length = a.srv.length + 4 := by simp [itemsC, srvI, putI]

set_option maxRecDepth 100000 in
set_option maxHeartbeats 4000000 in
theorem check_big (p : Option Addr) (n c : Nat) (q l m d s : Int) (w : World) (h16 : 16 < n) :
    Calls Tryz.prog 11 #[cfgV p n c q l m d s] w fun e w' => e = .returned (.int .i64 11) ∧ Mod NoB w w' := by
  have hz : ((n : Int) == 0) = false := beq_eq_false_iff_ne.mpr (by omega)
  go_enter Tryz.func11, Tryz.ntmps11
  go_wp2
  go_ret
  exact ⟨rfl, (Mod.refl _ _).alloc _⟩
set_option maxRecDepth 100000 in
set_option maxHeartbeats 4000000 in
theorem print_big (p : Option Addr) (n c : Nat) (q l m d s : Int) (w : World) (h16 : 16 < n) :
    Calls Tryz.prog 5 #[cfgV p n c q l m d s] w fun e w' => e = .returned (.tuple #[.string (bs []), .int .i64 11]) ∧ Mod NoB w w' := by
  have hck := hide (fun w' => check_big p n c q l m d s w' h16)
  go_enter Tryz.func5, Tryz.ntmps5
  go_wp2_with fail
  refine (hck.out _).mono ?_
  rintro e w1 ⟨rfl, hm⟩
  have hm' := hide (((Mod.refl NoB w).alloc _).trans hm)
  clear hm
  go_wp2
  go_ret2
  exact ⟨rfl, hm'.out⟩
end Go.Proofs.YtdcmjjinmnbaoaaGreatDoor
