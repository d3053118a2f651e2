/- A config's lines in another order, one twice, one left out: plain Lean. -/
import Derived.Test.YtdcmjjinmnbaoaaGreatDoorMF
import Derived.Lib.SplitLaws
import Derived.Lib.Join
namespace Go.Proofs.YtdcmjjinmnbaoaaGreatDoor
open Go.RowKit

/-- Lines between the same byte: what Split gives. -/
theorem split_nl : ∀ (L : List (List UInt8)), L ≠ [] → (∀ s ∈ L, (10 : UInt8) ∉ s) → Lib.splitK [10] 0 (L.length - 1) (nl L) = L
  | [], h, _ => absurd rfl h
  | [s], _, _ => rfl
  | s :: t :: r, _, hs => by
    have h10 := hs s (by simp)
    have ih := split_nl (t :: r) (by simp) (fun x hx => hs x (by simp [hx]))
    have hup : upTo (s ++ 10 :: nl (t :: r)) 10 = s := by rw [upTo_app]; exact upTo_all h10
    have hix : Lib.index (s ++ 10 :: nl (t :: r)) [10] = (s.length : Int) := by
      rw [Lib.index_one, index_upTo, if_pos (by simp), hup]
    rw [nl_cons (by simp)]
    show Lib.splitK [10] 0 ((t :: r).length - 1 + 1) _ = _
    unfold Lib.splitK
    rw [if_neg (by rw [hix]; simp), hix]
    simp only [Int.toNat_natCast, Nat.add_zero, List.length_cons, List.length_nil, Nat.zero_add]
    rw [List.take_left]
    congr 1
    have hd : (s ++ 10 :: nl (t :: r)).drop (s.length + 1) = nl (t :: r) := by
      rw [List.drop_append, List.drop_of_length_le (by omega)]
      simp
    rw [hd]
    simpa using ih
theorem nl_count : ∀ (L : List (List UInt8)), L ≠ [] → (∀ s ∈ L, (10 : UInt8) ∉ s) → (nl L).count 10 = L.length - 1 := by
  intro L h0 hs
  have := (nl_parts L h0 hs).1
  unfold partsN at this
  omega
theorem split_lines {L : List (List UInt8)} (h0 : L ≠ []) (hs : ∀ s ∈ L, (10 : UInt8) ∉ s) : Lib.splitK [10] 0 (Lib.count (nl L) [10]) (nl L) = L := by
  rw [Lib.count_one, nl_count L h0 hs, split_nl L h0 hs]

/-- What lines give, whatever their numbers. -/
theorem linesOf_words : ∀ (L : List (List UInt8)) (n : Nat), (linesOf n L).map (·.2) = (L.map fun s => Lib.fields (upTo s 35)).filter fun ws => decide (0 < ws.length) := by
  intro L
  induction L with
  | nil => intro n; rfl
  | cons s L ih =>
    intro n
    rw [linesOf, List.map_append, ih (n + 1), List.map_cons, List.filter_cons]
    by_cases h : 0 < (Lib.fields (upTo s 35)).length
    · rw [if_pos h, if_pos (by simpa using h)]; rfl
    · rw [if_neg h, if_neg (by simpa using h)]; rfl
theorem Runs.any {l : List Item} {st st' : St} (h : Runs l st st') : ∀ L : List (Nat × List (List UInt8)), L.map (·.2) = l.map wordsI → linesR L st = (0, 0, st') := by
  induction h with
  | nil st =>
    intro L hL
    cases L with
    | nil => rfl
    | cons x L => simp at hL
  | cons hi h t ih =>
    intro L hL
    cases L with
    | nil => simp at hL
    | cons x L =>
      obtain ⟨n, ws⟩ := x
      simp only [List.map_cons, List.cons.injEq] at hL
      obtain ⟨rfl, hL⟩ := hL
      have := lineR_item hi
      rw [linesR_ok (by rw [this, h]), this, h]
      exact ih L hL

/-- A remark, and an empty line, behind each line but the last. -/
def remX : List UInt8 := [32, 35, 32, 120]
def weave : List (List UInt8) → List (List UInt8)
  | [] => []
  | [s] => [s]
  | s :: t :: r => (s ++ remX) :: [] :: weave (t :: r)
def sepX : List UInt8 := [32, 35, 32, 120, 10, 10]
theorem weave_ne {s : List UInt8} {r : List (List UInt8)} : weave (s :: r) ≠ [] := by cases r <;> simp [weave]
theorem weave_join : ∀ (r : List (List UInt8)) (s : List UInt8), nl (weave (s :: r)) = Lib.join (s :: r) sepX := by
  intro r
  induction r with
  | nil => intro s; rw [Lib.join_one]; rfl
  | cons t r ih =>
    intro s
    have h1 := ih t
    rw [Lib.join_cons] at h1 ⊢
    rw [weave, nl_cons (by simp), nl_cons weave_ne, h1]
    simp [Lib.joinTail, remX, sepX]
theorem Cur.rem {s : List UInt8} {ws : List (List UInt8)} (h : Cur s ws) : Done (s ++ remX) ws := by
  have hup : upTo (s ++ remX) 35 = s ++ [32] := by
    have : s ++ remX = (s ++ [32]) ++ 35 :: [32, 120] := by simp [remX]
    rw [this, remark_bare]
    exact upTo_all (by simp only [List.mem_append, not_or]; exact ⟨h.no35, by decide⟩)
  refine ⟨?_, ?_, ?_⟩
  · rw [hup]
    have := blank_word (cur := s) (x := []) sp_blank
    rw [List.append_nil] at this
    rw [this, h.fields]
    exact List.append_nil _
  · rw [hup, List.all_append, h.ok]; rfl
  · simp only [List.mem_append, not_or]
    exact ⟨h.no10, by decide⟩
theorem weave_done : ∀ (l : List Item), (∀ it ∈ l, ItemOk it) → (∀ s ∈ weave (l.map textI), ∃ ws, Done s ws) ∧ ((weave (l.map textI)).map fun s => Lib.fields (upTo s 35)).filter (fun ws => decide (0 < ws.length)) = l.map wordsI
  | [], _ => ⟨by simp [weave], rfl⟩
  | [it], h => by
    have hd := (item_cur (h it (by simp))).done
    refine ⟨by simp only [List.map_cons, List.map_nil, weave, List.mem_singleton]; rintro s rfl; exact ⟨_, hd⟩, ?_⟩
    simp [weave, hd.fields, wordsI]
  | it :: it2 :: r, h => by
    obtain ⟨ih1, ih2⟩ := weave_done (it2 :: r) (fun x hx => h x (by simp [hx]))
    have hd := (item_cur (h it (by simp))).rem
    refine ⟨?_, ?_⟩
    · simp only [List.map_cons, weave, List.mem_cons]
      rintro s (rfl | rfl | hs)
      · exact ⟨_, hd⟩
      · exact ⟨_, done_nil⟩
      · exact ih1 s (by simpa using hs)
    · simp only [List.map_cons] at ih2 ⊢
      rw [weave, List.map_cons, List.map_cons, List.filter_cons, hd.fields, if_pos (by simp [wordsI]), List.filter_cons, if_neg (by simp [Lib.fields, upTo, Lib.fieldsGo]), ih2]

def headX : List UInt8 := [35, 32, 97, 32, 114, 101, 109, 97, 114, 107, 10, 10]
theorem head_done : Done [35, 32, 97, 32, 114, 101, 109, 97, 114, 107] [] := ⟨by decide, by decide, by decide⟩
/-- The lines turned about. -/
def turnI (a : Cfg) : List Item := putI a ++ srvI a.srv
theorem runs_turn {a : Cfg} (h : Fine a.srv a.q a.l a.m a.d a.s) : ∃ s, Runs (turnI a) st0 (a, s) ∧ seenAll s = true := by
  have hne : a.srv ≠ [] := by intro e; have := h.some_; rw [e] at this; simp at this
  have h1 := runs_put (a := a) (c := cfg0) (s := fun _ => false) (fine_num h) (fun _ _ _ => rfl)
  have h2 := runs_srv a.srv { a with srv := cfg0.srv } (seenP fun _ => false) (by simpa [cfg0] using fine_srv h)
  refine ⟨_, h1.app h2, ?_⟩
  unfold markS
  rw [if_neg hne]
  decide
theorem turn_ok {a : Cfg} (h : Fine a.srv a.q a.l a.m a.d a.s) : ∀ it ∈ turnI a, ItemOk it := by
  intro it hit
  rcases List.mem_append.1 hit with h1 | h1
  · exact putI_ok (fine_num h) it h1
  · obtain ⟨x, hx, rfl⟩ := List.mem_map.1 h1
    exact srv_item ((fine_srv h).2.2 x hx)
theorem item_len {it : Item} (h : ItemOk it) : (textI it).length ≤ 30 := by
  have h1 := numsT_len it.2
  have hk : ∀ k, k < 5 → (keyW k).length ≤ 6 := by decide
  have h2 := hk it.1 h.k5
  have hm := h.many
  have h3 := many_small it.1 h.k5
  simp [textI, lineB]; omega
theorem nl_len (L : List (List UInt8)) (h : ∀ s ∈ L, s.length ≤ 40) : (nl L).length ≤ 41 * L.length := by
  induction L with
  | nil => simp [nl]
  | cons s L ih =>
    have h1 := h s (by simp)
    have h2 := ih (fun x hx => h x (by simp [hx]))
    cases L with
    | nil => simp [nl]; omega
    | cons t L => rw [nl_cons (by simp)]; simp at h2 ⊢; omega
theorem weave_len : ∀ (L : List (List UInt8)), (∀ s ∈ L, s.length ≤ 30) → (weave L).length ≤ 2 * L.length ∧ ∀ s ∈ weave L, s.length ≤ 40
  | [], _ => by simp [weave]
  | [s], h => by have := h s (by simp); simp [weave]; omega
  | s :: t :: r, h => by
    obtain ⟨i1, i2⟩ := weave_len (t :: r) (fun x hx => h x (by simp [hx]))
    have := h s (by simp)
    refine ⟨by simp [weave] at i1 ⊢; omega, ?_⟩
    intro x hx
    simp only [weave, List.mem_cons] at hx
    rcases hx with rfl | rfl | hx
    · simp [remX]; omega
    · simp
    · exact i2 x (by simpa using hx)
theorem turn_len (a : Cfg) : (turnI a).length = a.srv.length + 4 := by simp [turnI, srvI, putI]
/-- The lines in another order are the same config. -/
theorem parse_turn {a : Cfg} (h : checkC a = 0) : (headX ++ Lib.join ((turnI a).map textI) sepX).length ≤ 65536 ∧ parseR (headX ++ Lib.join ((turnI a).map textI) sepX) = (a, 0, 0) := by
  have hf := check_fine h
  obtain ⟨s, hr, hs⟩ := runs_turn hf
  have hok := turn_ok hf
  obtain ⟨w1, w2⟩ := weave_done (turnI a) hok
  obtain ⟨it, r, ht⟩ : ∃ it r, turnI a = it :: r := ⟨_, _, rfl⟩
  have e : headX ++ Lib.join ((turnI a).map textI) sepX = nl ([35, 32, 97, 32, 114, 101, 109, 97, 114, 107] :: [] :: weave ((turnI a).map textI)) := by
    rw [ht, List.map_cons, ← weave_join, nl_cons (by simp), nl_cons weave_ne]
    simp [headX]
  have hwl := weave_len ((turnI a).map textI) (by
    intro x hx
    obtain ⟨it, hit, rfl⟩ := List.mem_map.1 hx
    exact item_len (hok it hit))
  have hl : (nl ([35, 32, 97, 32, 114, 101, 109, 97, 114, 107] :: [] :: weave ((turnI a).map textI))).length ≤ 65536 := by
    have h1 := nl_len ([35, 32, 97, 32, 114, 101, 109, 97, 114, 107] :: [] :: weave ((turnI a).map textI)) (by
      intro x hx
      simp only [List.mem_cons] at hx
      rcases hx with rfl | rfl | hx
      · simp
      · simp
      · exact hwl.2 x hx)
    have h2 := hwl.1
    have h3 := turn_len a
    have h4 := hf.few
    simp at h1 h2; omega
  rw [e]
  refine ⟨hl, ?_⟩
  rw [parse_done (by simp) (by
    intro x hx
    simp only [List.mem_cons] at hx
    rcases hx with rfl | rfl | hx
    · exact ⟨_, head_done⟩
    · exact ⟨_, done_nil⟩
    · exact w1 x hx) hl, hr.any _ (by
      rw [linesOf_words, List.map_cons, List.map_cons, List.filter_cons, head_done.fields, if_neg (by simp), List.filter_cons, if_neg (by simp [Lib.fields, upTo, Lib.fieldsGo]), w2])]
  exact endR_ok (x := (0, 0, (a, s))) rfl hs h

/-- A line twice. -/
theorem parse_twice {a : Cfg} (h : checkC a = 0) {it : Item} (hit : it ∈ itemsC a) : (nl ((itemsC a).map textI ++ [textI it])).length ≤ 65536 ∧ parseR (nl ((itemsC a).map textI ++ [textI it])) = (cfg0, (((itemsC a).length + 1 : Nat) : Int), 12) := by
  have hf := check_fine h
  have hok := fine_items hf it hit
  have hi := item_cur hok
  have hpl := printT_len hf
  have hl := item_len hok
  have e : printT a.srv a.q a.l a.m a.d a.s ++ textI it = nl ((itemsC a).map textI ++ [textI it]) := by rw [printT_ends, bodyC_items, ← ends_nl]
  rw [← e]
  refine ⟨by simp; omega, ?_⟩
  rw [parse_tail h hi.no10 (by omega)]
  unfold tailR linesOf linesOf
  have hup := upTo_all hi.no35
  rw [hup, if_neg (by rw [hi.ok]; simp), hi.fields, if_pos (by simp [wordsI])]
  simp only [List.cons_append, List.nil_append]
  have h12 : (lineR (wordsI it) (a, seenP (upd (fun _ => false) 0 true))).1 = 12 := by
    rw [lineR_item hok]
    unfold applyI
    rcases List.mem_append.1 hit with h1 | h1
    · obtain ⟨x, hx, rfl⟩ := List.mem_map.1 h1
      rw [if_neg (by simp)]
      simp only [takeR, List.getD_cons_zero, if_true, inI_mem.2 hx]
    · simp only [putI, List.mem_cons, List.not_mem_nil, or_false] at h1
      rcases h1 with rfl | rfl | rfl | rfl <;> rfl
  rw [linesR_bad (by rw [h12]; decide), endR_err (by show (lineR _ _).1 ≠ 0; rw [h12]; decide)]
  show (cfg0, _, (lineR _ _).1) = _
  rw [h12]

/-- A line left out. -/
def lessI (a : Cfg) (k : Nat) : List Item := (itemsC a).take k ++ (itemsC a).drop (k + 1)
def lessC (a : Cfg) (k : Nat) : Cfg := { a with srv := a.srv.take k ++ a.srv.drop (k + 1) }
def lessR (a : Cfg) (k : Nat) : Cfg × Int × Int :=
  if a.srv.length ≤ k ∨ a.srv.length = 1 then (cfg0, 0, 13) else if a.q < a.srv.length then (lessC a k, 0, 0) else (cfg0, 0, 3)
theorem lines_less {l : List Item} {st : St} (hok : ∀ it ∈ l, ItemOk it) (hl : l.length ≤ 100) (hr : Runs l st0 st) (hne : l ≠ []) : (nl (l.map textI)).length ≤ 65536 ∧ parseR (nl (l.map textI)) = endR (0, 0, st) := by
  have hlen : (nl (l.map textI)).length ≤ 65536 := by
    have := nl_len (l.map textI) (by
      intro x hx
      obtain ⟨it, hit, rfl⟩ := List.mem_map.1 hx
      have := item_len (hok it hit); omega)
    simp at this; omega
  refine ⟨hlen, ?_⟩
  have h2 := linesOf_items l 0 [] hok
  rw [List.append_nil] at h2
  rw [parse_done (by simpa using hne) (items_done hok) hlen, h2]
  simp only [linesOf, List.append_nil]
  rw [hr.lines]
theorem srv_less {xs : List Int} (h : SrvOk xs) (k : Nat) : SrvOk (xs.take k ++ xs.drop (k + 1)) := by
  have hs : (xs.take k ++ xs.drop (k + 1)).Sublist xs := by
    rw [← List.eraseIdx_eq_take_drop_succ]
    exact List.eraseIdx_sublist _ _
  exact ⟨hs.nodup h.1, Nat.le_trans hs.length_le h.2.1, fun x hx => h.2.2 x (hs.subset hx)⟩
theorem put_less (a : Cfg) (h : NumOk a) (c : Cfg) (s : Nat → Bool) (hs : ∀ k, 0 < k → k < 5 → s k = false) (j : Nat) (hj : j < 4) : ∃ c' s', Runs ((putI a).take j ++ (putI a).drop (j + 1)) (c, s) (c', s') ∧ s' (j + 1) = false := by
  have ok := putI_ok h
  have h1 := hs 1 (by omega) (by omega)
  have h2 := hs 2 (by omega) (by omega)
  have h3 := hs 3 (by omega) (by omega)
  have h4 := hs 4 (by omega) (by omega)
  rcases (by omega : j = 0 ∨ j = 1 ∨ j = 2 ∨ j = 3) with rfl | rfl | rfl | rfl
  · exact ⟨_, _, .cons (ok _ (by simp [putI])) (apply_put (k := 2) (by decide) h2) (.cons (ok _ (by simp [putI])) (apply_put (k := 3) (by decide) (by rw [upd_ne _ _ (by decide)]; exact h3)) (.cons (ok _ (by simp [putI])) (apply_put (k := 4) (by decide) (by rw [upd_ne _ _ (by decide), upd_ne _ _ (by decide)]; exact h4)) (.nil _))), by rw [upd_ne _ _ (by decide), upd_ne _ _ (by decide), upd_ne _ _ (by decide)]; exact h1⟩
  · exact ⟨_, _, .cons (ok _ (by simp [putI])) (apply_put (k := 1) (by decide) h1) (.cons (ok _ (by simp [putI])) (apply_put (k := 3) (by decide) (by rw [upd_ne _ _ (by decide)]; exact h3)) (.cons (ok _ (by simp [putI])) (apply_put (k := 4) (by decide) (by rw [upd_ne _ _ (by decide), upd_ne _ _ (by decide)]; exact h4)) (.nil _))), by rw [upd_ne _ _ (by decide), upd_ne _ _ (by decide), upd_ne _ _ (by decide)]; exact h2⟩
  · exact ⟨_, _, .cons (ok _ (by simp [putI])) (apply_put (k := 1) (by decide) h1) (.cons (ok _ (by simp [putI])) (apply_put (k := 2) (by decide) (by rw [upd_ne _ _ (by decide)]; exact h2)) (.cons (ok _ (by simp [putI])) (apply_put (k := 4) (by decide) (by rw [upd_ne _ _ (by decide), upd_ne _ _ (by decide)]; exact h4)) (.nil _))), by rw [upd_ne _ _ (by decide), upd_ne _ _ (by decide), upd_ne _ _ (by decide)]; exact h3⟩
  · exact ⟨_, _, .cons (ok _ (by simp [putI])) (apply_put (k := 1) (by decide) h1) (.cons (ok _ (by simp [putI])) (apply_put (k := 2) (by decide) (by rw [upd_ne _ _ (by decide)]; exact h2)) (.cons (ok _ (by simp [putI])) (apply_put (k := 3) (by decide) (by rw [upd_ne _ _ (by decide), upd_ne _ _ (by decide)]; exact h3)) (.nil _))), by rw [upd_ne _ _ (by decide), upd_ne _ _ (by decide), upd_ne _ _ (by decide)]; exact h4⟩
theorem parse_less {a : Cfg} (h : checkC a = 0) {k : Nat} (hk : k < a.srv.length + 4) : (nl ((lessI a k).map textI)).length ≤ 65536 ∧ parseR (nl ((lessI a k).map textI)) = lessR a k := by
  have hf := check_fine h
  have hso := fine_srv hf
  have hno := fine_num hf
  have h16 := hf.few
  have h1 := hf.some_
  have hne : a.srv ≠ [] := by intro e; rw [e] at h1; simp at h1
  have hsl : (srvI a.srv).length = a.srv.length := by simp [srvI]
  have hok : ∀ it ∈ lessI a k, ItemOk it := by
    intro it hit
    refine fine_items hf it ?_
    rcases List.mem_append.1 hit with h2 | h2
    · exact List.mem_of_mem_take h2
    · exact List.mem_of_mem_drop h2
  have hlen : (lessI a k).length ≤ 100 := by
    have : (lessI a k).length ≤ (itemsC a).length + (itemsC a).length := by simp [lessI]; omega
    rw [items_len] at this; omega
  by_cases hkn : a.srv.length ≤ k
  · obtain ⟨j, rfl⟩ : ∃ j, k = a.srv.length + j := ⟨k - a.srv.length, by omega⟩
    have e : lessI a (a.srv.length + j) = srvI a.srv ++ ((putI a).take j ++ (putI a).drop (j + 1)) := by
      unfold lessI itemsC
      rw [List.take_append, List.drop_append, hsl, List.take_of_length_le (by rw [hsl]; omega), List.drop_of_length_le (by rw [hsl]; omega)]
      rw [show a.srv.length + j - a.srv.length = j by omega, show a.srv.length + j + 1 - a.srv.length = j + 1 by omega]
      simp
    have r1 := runs_srv a.srv cfg0 (fun _ => false) (by simpa [cfg0] using hso)
    obtain ⟨c', s', r2, hs'⟩ := put_less a hno { cfg0 with srv := cfg0.srv ++ a.srv } (markS (fun _ => false) a.srv) (by
      intro k k0 k5
      unfold markS
      rw [if_neg hne, upd_ne _ _ (by omega)]) j (by omega)
    have hr := r1.app r2
    rw [← e] at hr
    obtain ⟨l1, l2⟩ := lines_less hok hlen hr (by rw [e]; simp [srvI, hne])
    refine ⟨l1, ?_⟩
    rw [l2]
    unfold lessR
    rw [if_pos (Or.inl (by omega))]
    exact endR_lack rfl (seenAll_false (k := j + 1) (by omega) hs')
  · have hkn' : k < a.srv.length := by omega
    have e : lessI a k = srvI (a.srv.take k ++ a.srv.drop (k + 1)) ++ putI a := by
      unfold lessI itemsC
      rw [List.take_append_of_le_length (by rw [hsl]; omega), List.drop_append_of_le_length (by rw [hsl]; omega)]
      simp [srvI, List.map_take, List.map_drop]
    have hsl2 := srv_less hso k
    have r1 := runs_srv (a.srv.take k ++ a.srv.drop (k + 1)) cfg0 (fun _ => false) (by simpa [cfg0] using hsl2)
    have r2 := runs_put (a := a) (c := { cfg0 with srv := cfg0.srv ++ (a.srv.take k ++ a.srv.drop (k + 1)) }) (s := markS (fun _ => false) (a.srv.take k ++ a.srv.drop (k + 1))) hno (by
      intro k k0 k5
      unfold markS
      split
      · rfl
      · rw [upd_ne _ _ (by omega)])
    have hr := r1.app r2
    rw [← e] at hr
    obtain ⟨l1, l2⟩ := lines_less hok hlen hr (by rw [e]; simp [putI])
    refine ⟨l1, ?_⟩
    rw [l2]
    unfold lessR
    have hll : (a.srv.take k ++ a.srv.drop (k + 1)).length = a.srv.length - 1 := by simp; omega
    by_cases hn1 : a.srv.length = 1
    · rw [if_pos (Or.inr hn1)]
      have hnil : a.srv.take k ++ a.srv.drop (k + 1) = [] := List.length_eq_zero_iff.1 (by omega)
      rw [hnil]
      have h00 : seenP (markS (fun _ => false) []) 0 = false := by decide
      exact endR_lack rfl (seenAll_false (k := 0) (by omega) h00)
    · have hnn : a.srv.take k ++ a.srv.drop (k + 1) ≠ [] := by intro e; rw [e] at hll; simp at hll; omega
      rw [if_neg (by omega)]
      have hall : seenAll (seenP (markS (fun _ => false) (a.srv.take k ++ a.srv.drop (k + 1)))) = true := by
        unfold markS
        rw [if_neg hnn]
        decide
      have hcc : (({ a with srv := ({ cfg0 with srv := cfg0.srv ++ (a.srv.take k ++ a.srv.drop (k + 1)) } : Cfg).srv } : Cfg)) = lessC a k := by simp [lessC, cfg0]
      obtain ⟨⟨b1, b2⟩, ⟨b3, b4⟩, ⟨b5, b6⟩, ⟨b7, b8⟩, ⟨b9, b10⟩⟩ := fine_nums hf
      by_cases hq : a.q < a.srv.length
      · rw [if_pos hq]
        have hck : checkC (lessC a k) = 0 := by
          refine check_ok hnn hsl2 ?_
          show numErr (a.srv.take k ++ a.srv.drop (k + 1)).length a.q a.l a.m a.d a.s = 0
          rw [hll]
          unfold numErr
          rw [if_pos]
          simp [inB3]; omega
        have := endR_ok (x := (0, 0, (lessC a k, seenP (markS (fun _ => false) (a.srv.take k ++ a.srv.drop (k + 1)))))) rfl hall hck
        rw [← this]
        congr 3
      · rw [if_neg hq]
        have hck : checkC (lessC a k) = 3 := by
          show checkR (a.srv.take k ++ a.srv.drop (k + 1)) a.q a.l a.m a.d a.s = 3
          rw [check_num (by rw [hll]; omega) (by rw [hll]; omega) (srvErr_ok hsl2 _ (Nat.le_refl _))]
          unfold numErr
          rw [hll, if_neg]
          simp [inB3]; omega
        have := endR_check (x := (0, 0, (lessC a k, seenP (markS (fun _ => false) (a.srv.take k ++ a.srv.drop (k + 1)))))) rfl hall (by rw [hck]; decide)
        rw [hck] at this
        rw [← this]
        congr 3
end Go.Proofs.YtdcmjjinmnbaoaaGreatDoor
