/- lex.Lines. The document's answer of chapter 5: the words of a line. The document's answer of chapter 5: the lines of a text. Rows of lines: their cells. The document's example of chapter 5. A text of one word. -/
import Derived.Test.YtpjfiplejhbdfaaGreatDoorPUah
import Derived.Test.YtpjfiplejhbdfaaGreatDoorPUad
import Derived.Maps.AppendAt
import Derived.Lib.Repeat
namespace Go.Proofs.YtpjfiplejhbdfaaGreatDoor
open Go.RowKit Go.Shelf
attribute [local go_sem] Oper.semAt_some

theorem lines_long (l : List UInt8) (hl : 65536 < l.length) (h2 : l.length ≤ 9223372036854775807) (w : World) :
    Calls Tryz.prog 71 #[.string (bs l)] w fun e w' => e = .returned (.tuple #[.slice none 0 0, .int .i64 0, .int .i64 7]) ∧ Mod NoB w w' := by
  go_enter Tryz.func71, Tryz.ntmps71
  go_wp2
  exact bodyPost_ret (v := .tuple #[.slice none 0 0, .int .i64 0, .int .i64 7]) (by simp [results, Tryz.results71, go_sem]) rfl ⟨rfl, (((Mod.refl _ _).alloc _).alloc _).alloc _⟩

theorem Mod.putObj {S : Nat → Prop} {a w : World} (h : Mod S a w) {b : Nat} (hb : S b ∨ a.heap.size ≤ b) (o : Obj) : Mod S a (w.putObj b o) :=
  ⟨h.os, h.tape, h.output, by rw [World.putObj_size]; exact h.size, fun k hk hn => by
    rw [World.putObj_heap_other (fun e => by subst e; rcases hb with hb | hb; exact hn hb; omega)]
    exact h.block k hk hn⟩

/-- Texts in a row of the call's own. -/
def StrsAt (base : Nat) (W : World) (v : Value) (ws : List (List UInt8)) : Prop := W.ownsRow base 9 1 v ws.length (ws.map fun s => .string (bs s))

/-- Lines in a row of the call's own. -/
def LinesAt (T : TypeId) (base : Nat) (W : World) (v : Value) (L : List (Nat × List (List UInt8))) : Prop :=
  ∃ E : List ((Nat × List (List UInt8)) × Value), E.map (·.1) = L ∧ W.ownsRow base T 2 v E.length (E.flatMap fun x => [.int .i64 x.1.1, x.2]) ∧ ∀ x ∈ E, StrsAt base W x.2 x.1.2

theorem LinesAt.mod {T base : Nat} {W W' : World} {v : Value} {L : List (Nat × List (List UInt8))} {S : Nat → Prop} (h : LinesAt T base W v L) (hm : Mod S W W') (hS : ∀ k, S k → k < base) : LinesAt T base W' v L :=
  let ⟨E, h1, h2, h3⟩ := h
  ⟨E, h1, ownsRow_mod h2 hm hS, fun x hx => ownsRow_mod (h3 x hx) hm hS⟩

/-- Between two rounds of lex.Lines, k lines having been seen. -/
structure JL (w : World) (L : List (Nat × List (List UInt8))) (k : Nat) (r : List UInt8) (W : World) : Prop where
  h0 : W.heap[w.heap.size]? = some (.cells #[.slice none 0 0] 151 (0, 0))
  h1 : W.heap[w.heap.size + 1]? = some (.cells #[.int .i64 0] 3 (0, 0))
  h2 : W.heap[w.heap.size + 2]? = some (.cells #[.int .i64 0] 26 (0, 0))
  h3 : ∃ v, W.heap[w.heap.size + 3]? = some (.cells #[v] 151 (0, 0)) ∧ LinesAt 156 (w.heap.size + 10) W v L
  h4 : W.heap[w.heap.size + 4]? = some (.cells #[.int .i64 k] 3 (0, 0))
  h5 : W.heap[w.heap.size + 5]? = some (.cells #[.string (bs r)] 9 (0, 0))
  h6 : W.heap[w.heap.size + 6]? = some (.cells #[.string ⟨#[10]⟩] 9 (0, 0))
  h7 : W.heap[w.heap.size + 7]? = some (.cells #[.int .i64 0] 3 (0, 0))
  m : Mod NoB w W

theorem JL.mod {w : World} {L : List (Nat × List (List UInt8))} {k : Nat} {r : List UInt8} {W W' : World} {S : Nat → Prop} (h : JL w L k r W) (hm : Mod S W W') (hS : ∀ b, S b → w.heap.size + 8 ≤ b ∧ b < w.heap.size + 10) : JL w L k r W' :=
  ⟨hm.heap h.h0 (fun s => by have := hS _ s; omega), hm.heap h.h1 (fun s => by have := hS _ s; omega), hm.heap h.h2 (fun s => by have := hS _ s; omega),
   let ⟨v, a, b⟩ := h.h3; ⟨v, hm.heap a (fun s => by have := hS _ s; omega), b.mod hm (fun b s => (hS b s).2)⟩,
   hm.heap h.h4 (fun s => by have := hS _ s; omega), hm.heap h.h5 (fun s => by have := hS _ s; omega), hm.heap h.h6 (fun s => by have := hS _ s; omega), hm.heap h.h7 (fun s => by have := hS _ s; omega),
   h.m.into hm fun b s => Or.inr (by have := hS _ s; omega)⟩

theorem JL.it {w : World} {L : List (Nat × List (List UInt8))} {k : Nat} {r : List UInt8} {W : World} (h : JL w L k r W) : SplitAt 10 (w.heap.size + 5) (w.heap.size + 6) (w.heap.size + 7) r W :=
  ⟨cell_of_block h.h5 0 rfl, frozen_of_block h.h5 0, cell_of_block h.h6 0 rfl, cell_of_block h.h7 0 rfl⟩

theorem JL.apart {w : World} {L : List (Nat × List (List UInt8))} {k : Nat} {r : List UInt8} : Apart (w.heap.size + 8) (JL w L k r) := fun _ b o h1 h2 h =>
  h.mod (S := (· = b)) (Mod.putObj (S := (· = b)) (Mod.refl _ _) (Or.inl rfl) o) (fun _ e => by subst e; omega)

theorem JL.next {w : World} {L : List (Nat × List (List UInt8))} {k : Nat} {r r' : List UInt8} {W : World} (h : JL w L k r W) : JL w L k r' (W.setCell ⟨w.heap.size + 5, 0, none⟩ (.string (bs r'))) := by
  have hm : Mod (· = w.heap.size + 5) W (W.setCell ⟨w.heap.size + 5, 0, none⟩ (.string (bs r'))) := (Mod.refl _ _).set1 _ _
  refine ⟨hm.heap h.h0 (by omega), hm.heap h.h1 (by omega), hm.heap h.h2 (by omega), ?_, hm.heap h.h4 (by omega), ?_, hm.heap h.h6 (by omega), hm.heap h.h7 (by omega), h.m.into hm fun b s => Or.inr (by omega)⟩
  · obtain ⟨v, a, b⟩ := h.h3
    exact ⟨v, hm.heap a (by omega), b.mod hm (fun b s => by omega)⟩
  · rw [heap_setCell_eq h.h5]; simp

theorem JL.num {w : World} {L : List (Nat × List (List UInt8))} {k k' : Nat} {r : List UInt8} {W : World} (h : JL w L k r W) : JL w L k' r (W.setCell ⟨w.heap.size + 4, 0, none⟩ (.int .i64 k')) := by
  have hm : Mod (· = w.heap.size + 4) W (W.setCell ⟨w.heap.size + 4, 0, none⟩ (.int .i64 k')) := (Mod.refl _ _).set1 _ _
  refine ⟨hm.heap h.h0 (by omega), hm.heap h.h1 (by omega), hm.heap h.h2 (by omega), ?_, ?_, hm.heap h.h5 (by omega), hm.heap h.h6 (by omega), hm.heap h.h7 (by omega), h.m.into hm fun b s => Or.inr (by omega)⟩
  · obtain ⟨v, a, b⟩ := h.h3
    exact ⟨v, hm.heap a (by omega), b.mod hm (fun b s => by omega)⟩
  · rw [heap_setCell_eq h.h4]; simp

/-- It has left by a return: line j is wrong. -/
structure XL (w : World) (l : List UInt8) (W : World) : Prop where
  bad : ∃ j : Nat, j < partsN 10 l ∧ okLine l j = false ∧ (∀ i, i < j → okLine l i = true) ∧ W.heap[w.heap.size + 1]? = some (.cells #[.int .i64 ((j + 1 : Nat) : Int)] 3 (0, 0))
  h0 : W.heap[w.heap.size]? = some (.cells #[.slice none 0 0] 151 (0, 0))
  h2 : W.heap[w.heap.size + 2]? = some (.cells #[.int .i64 6] 26 (0, 0))
  m : Mod NoB w W

theorem XL.apart {w : World} {l : List UInt8} : Apart (w.heap.size + 8) (XL w l) := fun W b o h1 h2 h => by
  have hm : Mod (· = b) W (W.putObj b o) := Mod.putObj (S := (· = b)) (Mod.refl _ _) (Or.inl rfl) o
  obtain ⟨⟨j, a1, a2, a3, a4⟩, h0, h2', m⟩ := h
  exact ⟨⟨j, a1, a2, a3, hm.heap a4 (by omega)⟩, hm.heap h0 (by omega), hm.heap h2' (by omega), m.into hm fun b s => Or.inr (by omega)⟩

theorem alloc_get (w : World) (o : Obj) (k : Nat) : (w.alloc o).heap[k]? = if k = w.heap.size then some o else w.heap[k]? := by
  split
  · rename_i h; subst h; exact heap_alloc_new w o
  · rename_i h
    rcases Nat.lt_or_ge k w.heap.size with h1 | h1
    · exact heap_alloc_old h1 o
    · rw [Array.getElem?_eq_none (by rw [World.size_alloc]; omega), Array.getElem?_eq_none h1]

theorem res3 (tmps : Array Value) (W : World) (a b c : Nat) (u v x : Value) (ha : tmps[2]?.getD undef = .pointer (some ⟨a, 0, none⟩)) (hb : tmps[3]?.getD undef = .pointer (some ⟨b, 0, none⟩)) (hc : tmps[4]?.getD undef = .pointer (some ⟨c, 0, none⟩))
    (h0 : W.cell? ⟨a, 0, none⟩ = some u) (h1 : W.cell? ⟨b, 0, none⟩ = some v) (h2 : W.cell? ⟨c, 0, none⟩ = some x) :
    (results Tryz.f71 tmps).run Tryz.prog W = .ok (.tuple #[u, v, x]) W := by
  simp [results, Tryz.results71, go_sem, ha, hb, hc, h0, h1, h2]

theorem LinesAt.slice {T base : Nat} {W : World} {v : Value} {L : List (Nat × List (List UInt8))} (h : LinesAt T base W v L) : ∃ p n c, v = .slice p n c := by
  obtain ⟨E, h1, h2, h3⟩ := h
  rcases h2.2 with ⟨h, _⟩ | ⟨g, cap, cur, h, _⟩
  · exact ⟨_, _, _, h⟩
  · exact ⟨_, _, _, h⟩

theorem set3 {W : World} {B : Nat} {a b c : Value} {t t' t'' : TypeId} (x y z : Value) (h0 : W.heap[B]? = some (.cells #[a] t (0, 0))) (h1 : W.heap[B + 1]? = some (.cells #[b] t' (0, 0))) (h2 : W.heap[B + 2]? = some (.cells #[c] t'' (0, 0)))
    {Wz : World} (hWz : ((W.setCell ⟨B, 0, none⟩ x).setCell ⟨B + 1, 0, none⟩ y).setCell ⟨B + 2, 0, none⟩ z = Wz) :
    Wz.heap[B]? = some (.cells #[x] t (0, 0)) ∧ Wz.heap[B + 1]? = some (.cells #[y] t' (0, 0)) ∧ Wz.heap[B + 2]? = some (.cells #[z] t'' (0, 0)) ∧ Mod (fun b => b < B + 3 ∧ B ≤ b) W Wz := by
  refine ⟨?_, ?_, ?_, ?_⟩
  · rw [← hWz, heap_setCell_ne (by simp), heap_setCell_ne (by simp), heap_setCell_eq h0]; simp
  · rw [← hWz, heap_setCell_ne (by simp), heap_setCell_eq (c := #[b]) (t := t') (fr := (0, 0)) (by rw [heap_setCell_ne (by simp)]; exact h1)]; simp
  · rw [← hWz, heap_setCell_eq (c := #[c]) (t := t'') (fr := (0, 0)) (by rw [heap_setCell_ne (by simp), heap_setCell_ne (by simp)]; exact h2)]; simp
  · rw [← hWz]
    exact (((Mod.refl _ _).setCell (Or.inl (by simp)) _).setCell (Or.inl (by simp)) _).setCell (Or.inl (by simp)) _

theorem cntF_le (l : List UInt8) : ∀ ws, Lib.cntF ws l ≤ l.length := by
  induction l with
  | nil => intro ws; simp [Lib.cntF]
  | cons b l ih =>
    intro ws
    have := ih (Lib.isSp b)
    simp only [Lib.cntF, List.length_cons]
    split <;> omega
theorem fields_len (l : List UInt8) : (Lib.fields l).length ≤ l.length := by
  have := cntF_le l true
  rw [Lib.fields, Lib.fieldsGo_length]
  simpa using this

theorem LinesAt.snoc {T base : Nat} {W' : World} {v' : Value} {L : List (Nat × List (List UInt8))} {E : List ((Nat × List (List UInt8)) × Value)} (h1 : E.map (·.1) = L) (h3 : ∀ x ∈ E, StrsAt base W' x.2 x.1.2)
    {N : Nat} {ws : List (List UInt8)} {u : Value} (hu : StrsAt base W' u ws) (hown : W'.ownsRow base T 2 v' (E.length + 1) ((E.flatMap fun x => [.int .i64 x.1.1, x.2]) ++ [.int .i64 (N : Int), u])) :
    LinesAt T base W' v' (L ++ [(N, ws)]) := by
  refine ⟨E ++ [((N, ws), u)], by simp [h1], by simpa using hown, fun x hx => ?_⟩
  rcases List.mem_append.mp hx with h | h
  · exact h3 x h
  · simp at h; subst h; exact hu

theorem Mod.grownIn {S : Nat → Prop} {a w w' : World} {row : Option Nat} (h : Mod S a w) (hg : w.grownBy w' row) (hr : ∀ k, row = some k → S k) : Mod S a w' :=
  ⟨hg.os.trans h.os, hg.tape.trans h.tape, hg.output.trans h.output, Nat.le_trans h.size hg.size, fun k hk hn =>
    (hg.block k (Nat.lt_of_lt_of_le hk h.size) (fun e => hn (hr k e.symm))).trans (h.block k hk hn)⟩
theorem own_ge {W : World} {base : Nat} {e : TypeId} {z : Nat} {v : Value} {n : Nat} {xs : List Value} (h : W.ownsRow base e z v n xs) (k : Nat) (hk : v.ownBlock = some k) : base ≤ k := by
  rcases h.2 with ⟨h, _⟩ | ⟨g, cap, cur, h, hb, _⟩
  · subst h; simp [Value.ownBlock] at hk
  · subst h; simp [Value.ownBlock] at hk; omega
theorem own_slice {W : World} {base : Nat} {e : TypeId} {z : Nat} {v : Value} {n : Nat} {xs : List Value} (h : W.ownsRow base e z v n xs) : ∃ p n c, v = .slice p n c := by
  rcases h.2 with ⟨h, _⟩ | ⟨g, cap, cur, h, _⟩
  · exact ⟨_, _, _, h⟩
  · exact ⟨_, _, _, h⟩
theorem cells_two_new (w : World) (x y : Value) (t : TypeId) : ∀ j u, [x, y][j]? = some u → (w.alloc (.cells #[x, y] t)).cell? ((⟨w.heap.size, 0, none⟩ : Addr).add j) = some u := by
  intro j u hu
  rw [Go.WideShapes.add_plain, Nat.zero_add]
  refine cell_of_block (heap_alloc_new w _) j ?_
  rw [← hu]; simp
/-- An append must leave what lies ahead as it lay, but for the row itself. -/
theorem grown_mod {W w5 : World} {o : Obj} {base : Nat} {e : TypeId} {z : Nat} {v : Value} {n : Nat} {xs : List Value} (h : W.ownsRow base e z v n xs) (hg : (W.alloc o).grownBy w5 v.ownBlock) : Mod (fun b => base ≤ b) W w5 :=
  Mod.grownIn ((Mod.refl _ _).alloc o) hg (own_ge h)

theorem StrsAt.grown {W w5 : World} {o : Obj} {base : Nat} {e : TypeId} {z : Nat} {v : Value} {n : Nat} {xs : List Value} {u : Value} {ws : List (List UInt8)} (hs : StrsAt base W u ws) (h : W.ownsRow base e z v n xs) (hne : e ≠ 9)
    (hg : (W.alloc o).grownBy w5 v.ownBlock) : StrsAt base w5 u ws := by
  refine ⟨hs.1, ?_⟩
  rcases hs.2 with h0 | ⟨g, cap, cur, hv, hb, hgc, r⟩
  · exact Or.inl h0
  · refine Or.inr ⟨g, cap, cur, hv, hb, ?_, r⟩
    have hlt := lt_of_block hgc
    rw [hg.block g (by simp; omega) ?_, heap_alloc_old hlt]
    · exact hgc
    · intro hrow
      rcases h.2 with ⟨h1, _⟩ | ⟨g', cap', cur', h1, _, hgc', _⟩
      · subst h1; simp [Value.ownBlock] at hrow
      · subst h1
        simp [Value.ownBlock] at hrow
        subst hrow
        rw [hgc] at hgc'
        simp at hgc'
        exact hne hgc'.2.symm

theorem infoLine : (Tryz.prog.info? 156).map (fun i => (i.zero, i.size, i.bytes)) = some (some (.agg #[.int .i64 0, .slice none 0 0]), 2, 32) := by kernel_rfl

/-- How lex.Lines ends at a text that is not too long. -/
def LinesOut (w : World) (l : List UInt8) (e : Ending) (w' : World) : Prop :=
  ((∃ j : Nat, j < partsN 10 l ∧ okLine l j = false ∧ (∀ i, i < j → okLine l i = true) ∧ e = .returned (.tuple #[.slice none 0 0, .int .i64 ((j + 1 : Nat) : Int), .int .i64 6])) ∨
   ((∀ i, i < partsN 10 l → okLine l i = true) ∧ ∃ v, e = .returned (.tuple #[v, .int .i64 0, .int .i64 0]) ∧ LinesAt 156 (w.heap.size + 10) w' v (linesTo l (partsN 10 l)))) ∧ Mod NoB w w'

set_option maxRecDepth 100000 in
set_option maxHeartbeats 8000000 in
theorem lines_walk (l : List UInt8) (hl : l.length ≤ 65536) (w : World) (htab : ∀ W, Mod NoB w W → Lib.TabIs Tryz.prog W "strings.asciiSpace" .u8 Lib.asciiSpaceTab) :
    Calls Tryz.prog 71 #[.string (bs l)] w (LinesOut w l) := by
  have htab := hide htab
  refine (callsIn_wide (n := 9)).1 ?_
  refine callsIn_of_wp_marks Tryz.func71 rfl trivial ?_ rfl
  simp only [Tryz.ntmps71, List.size_toArray, List.length_cons, List.length_nil, Nat.reduceAdd, Nat.reduceSub, Array.replicate_succ, Array.replicate_zero, List.push_toArray, List.append_toArray, List.nil_append, List.cons_append]
  gi_wp2_with fail
  refine ⟨trivial, (callsIn_wide.2 (splitSeq_any (bs l) ⟨#[10]⟩ _)).mono ?_⟩
  rintro e w' ⟨rfl, rfl⟩
  gi_wp2_with fail
  have hJ0 : ∀ o o', JL w [] 0 l ((((((((((w.alloc (.cells #[.slice none 0 0] 151)).alloc (.cells #[.int .i64 0] 3)).alloc (.cells #[.int .i64 0] 26)).alloc (.cells #[.slice none 0 0] 151)).alloc (.cells #[.int .i64 0] 3)).alloc (.cells #[.string (bs l)] 9)).alloc (.cells #[.string ⟨#[10]⟩] 9)).alloc (.cells #[.int .i64 0] 3)).alloc o).alloc o') := by
    intro o o'
    refine ⟨?_, ?_, ?_, ⟨.slice none 0 0, ?_, ⟨[], rfl, World.ownsRow_nil _ _ _ _, by simp⟩⟩, ?_, ?_, ?_, ?_, (((((((((((Mod.refl _ _).alloc _).alloc _).alloc _).alloc _).alloc _).alloc _).alloc _).alloc _).alloc _).alloc _)⟩
    all_goals simp only [alloc_get, World.size_alloc]
    all_goals repeat (first | rw [if_pos (by omega)] | rw [if_neg (by omega)])
    all_goals exact if_pos trivial
  generalize hw8 : (((((((w.alloc (.cells #[.slice none 0 0] 151)).alloc (.cells #[.int .i64 0] 3)).alloc (.cells #[.int .i64 0] 26)).alloc (.cells #[.slice none 0 0] 151)).alloc (.cells #[.int .i64 0] 3)).alloc (.cells #[.string (bs l)] 9)).alloc (.cells #[.string ⟨#[10]⟩] 9)).alloc (.cells #[.int .i64 0] 3) = w8 at hJ0 ⊢
  have hsz : w8.heap.size = w.heap.size + 8 := by rw [← hw8]; simp
  clear hw8
  replace hJ0 := hide hJ0
  simp only [Nat.add_assoc, Nat.reduceAdd]
  refine rangeSplit 9 10 (w.heap.size + 5) (w.heap.size + 6) (w.heap.size + 7) (partsN 10 l) (restF 10 l) (partF 10 l) (parts_of 10 l (by omega)) rfl rfl
    (fun k W => JL w (linesTo l k) k (restF 10 l k) W ∧ ∀ j, j < k → okLine l j = true) (fun k W => JL w (linesTo l (k + 1)) (k + 1) (restF 10 l k) W ∧ ∀ j, j < k + 1 → okLine l j = true) (XL w l)
    (fun k => by rw [hsz]; exact fun W b o a1 a2 h => ⟨JL.apart W b o a1 a2 h.1, h.2⟩) (fun k => by rw [hsz]; exact fun W b o a1 a2 h => ⟨JL.apart W b o a1 a2 h.1, h.2⟩) (by rw [hsz]; exact XL.apart) (by omega)
    (fun k W h => h.1.it) (fun k W h => h.1.it) (fun k W _ h => ⟨h.1.next, h.2⟩) (fun o o' => ⟨hJ0.out o o', by omega⟩)
    (fun k => { tmps := #[.string (bs l), undef, .pointer (some ⟨w.heap.size, 0, none⟩), .pointer (some ⟨w.heap.size + 1, 0, none⟩), .pointer (some ⟨w.heap.size + 2, 0, none⟩), .pointer (some ⟨w.heap.size + 3, 0, none⟩), .pointer (some ⟨w.heap.size + 4, 0, none⟩), .string (bs (partF 10 l k)), undef, .string (bs l),
      .int .i64 l.length, .bool (decide (65536 < (l.length : Int))), .string (bs l), .func (.func 161) #[] #[.pointer (some ⟨w.heap.size + 6, 0, none⟩), .pointer (some ⟨w.heap.size + 5, 0, none⟩), .pointer (some ⟨w.heap.size + 7, 0, none⟩)], .string (bs (partF 10 l k)),
      undef, undef, undef, undef, undef, undef, undef, undef, undef, undef, undef, undef, undef, undef, undef, undef, undef, undef, undef, undef, undef, undef, undef, undef], defers := [] }) ?assign ?body ?done ?stop
  case assign =>
    intro l2 k W K hK
    gi_wp2
    exact hK
  case body =>
    rintro l2 k W hk hW ⟨hj, hok⟩
    rw [hsz] at hW ⊢
    have hcn : l.count 10 ≤ l.length := List.count_le_length
    have hk6 : k ≤ 65536 := by simp only [partsN] at hk; omega
    have hpl : (partF 10 l k).length ≤ 65536 := Nat.le_trans (upTo_le _ _) (Nat.le_trans (rest_len 10 l k) hl)
    have c4 := cell_of_block hj.h4 0 (v := .int .i64 k) rfl
    have f4 := frozen_of_block hj.h4 0
    have hj1 : Hid (JL w (linesTo l k) (k + 1) (restF 10 l k) (W.setCell ⟨w.heap.size + 4, 0, none⟩ (.int .i64 ((k : Int) + 1)))) := hide hj.num
    have hF1 : Hid (Mod (fun b => b < w.heap.size + 8 ∨ w.heap.size + 10 ≤ b) W (W.setCell ⟨w.heap.size + 4, 0, none⟩ (.int .i64 ((k : Int) + 1)))) := hide ((Mod.refl _ _).setCell (Or.inl (by simp)) _)
    replace hok := hide hok
    replace hj := hide hj
    have hcut := hide (cut_any (partF 10 l k) 35)
    have hbr : upTo (partF 10 l k) 35 = bare l k := rfl
    rw [hbr] at hcut
    have hbl : (bare l k).length ≤ 65536 := Nat.le_trans (upTo_le _ _) hpl
    gi_wp2_with fail
    refine ⟨trivial, ((callsIn_wide.2 (hcut.out _ (by omega))).inRound l2).mono ?_⟩
    rintro e W2 ⟨u, v, rfl, hm2⟩
    replace hj1 := hide (hj1.out.mod hm2 (fun _ h => h.elim))
    replace hF1 := hide (hF1.out.trans (hm2.mono fun _ _ h => h.elim))
    clear hm2 c4 f4
    gi_wp2_with fail
    refine ⟨trivial, ((callsIn_wide.2 (plain_any (bs (bare l k)) _)).inRound l2).mono ?_⟩
    rintro e W3 ⟨rfl, hm3⟩
    replace hj1 := hide (hj1.out.mod hm3 (fun _ h => h.elim))
    replace hF1 := hide (hF1.out.trans (hm3.mono fun _ _ h => h.elim))
    clear hm3
    have hpb : ((bs (bare l k)).data.toList.all okB) = okLine l k := rfl
    rw [hpb]
    cases hokk : okLine l k with
    | false =>
      replace hokk := hide hokk
      have c4 := cell_of_block hj1.out.h4 0 (v := .int .i64 ((k : Int) + 1)) rfl
      have c0 := cell_of_block hj1.out.h0 0 (v := .slice none 0 0) rfl
      have c1 := cell_of_block hj1.out.h1 0 (v := .int .i64 0) rfl
      have c2 := cell_of_block hj1.out.h2 0 (v := .int .i64 0) rfl
      have f0 := frozen_of_block hj1.out.h0 0
      have f1 := frozen_of_block hj1.out.h1 0
      have f2 := frozen_of_block hj1.out.h2 0
      have hmx : Tryz.prog.follows .mixedOrders = true := by kernel_rfl
      gi_wp2_with fail
      gi_region_with_o (fail)
      all_goals gi_wp2
      all_goals
        obtain ⟨Wz, hWz⟩ : ∃ Wz, ((W3.setCell ⟨w.heap.size, 0, none⟩ (.slice none 0 0)).setCell ⟨w.heap.size + 1, 0, none⟩ (.int .i64 ((k : Int) + 1))).setCell ⟨w.heap.size + 2, 0, none⟩ (.int .i64 6) = Wz := ⟨_, rfl⟩
        obtain ⟨z0, z1, z2, hmz⟩ := set3 _ _ _ hj1.out.h0 hj1.out.h1 hj1.out.h2 hWz
        rw [hWz]
        refine ⟨fun b hb1 hb2 => ?_, ⟨k, hk, hokk.out, hok.out, z1⟩, z0, z2, (hj1.out.m.into hmz fun b s => Or.inr s.2).drew⟩
        exact (hmz.block b (by have := hF1.out.size; omega) (by omega)).trans (hF1.out.block b (by omega) (by omega))
    | true =>
      replace hokk := hide hokk
      have hab : ∀ (j : Nat) b, (bs (bare l k)).data.toList[j]? = some b → b.toNat < 128 := fun j b hb => by
        have h1 : b ∈ bare l k := List.mem_of_getElem? hb
        have h2 := hokk.out
        unfold okLine at h2
        have h3 := List.all_eq_true.mp h2 b h1
        rw [okB_eq] at h3
        simp at h3
        omega
      have hfl := hide (Tryz.strings_Fields (bs (bare l k)) W3 (by show (bare l k).length < _; omega) hab (htab.out W3 hj1.out.m))
      gi_wp2_with fail
      refine ⟨trivial, ((callsIn_wide.2 hfl.out).inRound l2).mono ?_⟩
      rintro e W4 ⟨rfl, rfl⟩
      clear hfl hab
      have hsz3 : w.heap.size + 10 ≤ W3.heap.size := by have := hF1.out.size; omega
      have hfn := fields_len (bare l k)
      have hwd : wordsOf l k = Lib.fields (bare l k) := rfl
      have hok2 : Hid (∀ j, j < k + 1 → okLine l j = true) := hide (fun j hj => by
        rcases Nat.lt_or_ge j k with h | h
        · exact hok.out j h
        · obtain rfl : j = k := by omega
          exact hokk.out)
      generalize Lib.fields (bare l k) = ws at hfn hwd ⊢
      generalize hW4 : W3.alloc (.cells ((ws.map fun l => Value.string ⟨l.toArray⟩).toArray) 9) = W4
      have hst : StrsAt (w.heap.size + 10) W4 (.slice (some ⟨W3.heap.size, 0, none⟩) ws.length ws.length) ws := by
        refine ⟨by simp, Or.inr ⟨W3.heap.size, ws.length, (ws.map fun l => Value.string ⟨l.toArray⟩).toArray, rfl, hsz3, ?_, Nat.le_refl _, by unfold maxLen; omega, by simp, by simp only [Nat.mul_one]; exact List.take_of_length_le (by simp)⟩⟩
        rw [← hW4]
        exact heap_alloc_new _ _
      replace hj1 := hj1.out.mod (W' := W4) (S := NoB) (by rw [← hW4]; exact (Mod.refl _ _).alloc _) (fun _ h => h.elim)
      replace hF1 : Mod (fun b => b < w.heap.size + 8 ∨ w.heap.size + 10 ≤ b) W W4 := by rw [← hW4]; exact hF1.out.alloc _
      generalize W3.heap.size = gb at hst hsz3 ⊢
      clear hW4
      replace hst := hide hst
      replace hF1 := hide hF1
      by_cases hn0 : ws.length = 0
      · replace hj1 := hide hj1
        replace hwd := hide hwd
        gi_wp2
        refine ⟨fun b hb1 hb2 => hF1.out.block b (by omega) (by omega), ?_, hok2.out⟩
        have : linesTo l (k + 1) = linesTo l k := by
          show linesTo l k ++ (if 0 < (wordsOf l k).length then _ else _) = _
          rw [if_neg (by rw [hwd.out]; omega)]
          simp
        rw [this]
        exact hj1.out
      · have hpos : 0 < ws.length := by omega
        clear hn0
        obtain ⟨v, h3, E, hE1, hE2, hE3⟩ := hj1.h3
        obtain ⟨p, n, cp, rfl⟩ := LinesAt.slice ⟨E, hE1, hE2, hE3⟩
        have hEl : E.length ≤ 65536 := by
          have h1 := linesTo_len l k
          rw [← hE1] at h1
          simp at h1
          omega
        have c3 := cell_of_block h3 0 (v := .slice p n cp) rfl
        have f3 := frozen_of_block h3 0
        have c4 := cell_of_block hj1.h4 0 (v := .int .i64 ((k : Int) + 1)) rfl
        obtain ⟨i0, hi, hz0, hz1, hz2⟩ := info_parts infoLine
        replace hi := hide hi
        replace hz0 := hide hz0
        replace hz1 := hide hz1
        replace hz2 := hide hz2
        replace hj1 := hide hj1
        replace h3 := hide h3
        replace hE1 := hide hE1
        replace hE2 := hide hE2
        replace hE3 := hide hE3
        replace hwd := hide hwd
        gi_wp2_with (gi_at_builtin; refine wpListIn_append_own _ rfl (.tmp 32) (.tmp 36) 151 rfl (w.heap.size + 10) 156 i0 (.agg #[.int .i64 0, .slice none 0 0]) 2 32 Tryz.underlying151 hi.out hz0.out hz1.out hz2.out rfl (by decide) (.slice p n cp) E.length _ rfl (ownsRow_mod (S := NoB) hE2.out ((Mod.refl _ _).alloc _) (fun _ h => h.elim)) ⟨W4.heap.size, 0, none⟩ 1 1 [.int .i64 ((k : Int) + 1), .slice (some ⟨gb, 0, none⟩) ws.length ws.length] rfl rfl (cells_two_new _ _ _ _) (by intro u hu; simp at hu; rcases hu with rfl | rfl <;> rfl) (by unfold maxLen; omega) (by omega) (by have := hF1.out.size; simp; omega) ?_; intro v' w5 hown' hgrow _; obtain ⟨p', n', c', rfl⟩ := own_slice hown'; have hm5 := grown_mod hE2.out hgrow; have d3 := cell_of_block (hm5.heap h3.out (by omega)) 0 (v := .slice p n cp) rfl; have e3 := frozen_of_block (hm5.heap h3.out (by omega)) 0)
        have hm6 : Mod (fun b => b = w.heap.size + 3 ∨ w.heap.size + 10 ≤ b) W4 (w5.setCell ⟨w.heap.size + 3, 0, none⟩ (.slice p' n' c')) := Mod.setCell (S := fun b => b = w.heap.size + 3 ∨ w.heap.size + 10 ≤ b) (p := ⟨w.heap.size + 3, 0, none⟩) (hm5.mono fun b _ h => Or.inr h) (Or.inl (Or.inl rfl)) _
        have hset : Mod (· = w.heap.size + 3) w5 (w5.setCell ⟨w.heap.size + 3, 0, none⟩ (.slice p' n' c')) := (Mod.refl _ _).set1 _ _
        have hln : linesTo l (k + 1) = linesTo l k ++ [(k + 1, ws)] := by
          show linesTo l k ++ (if 0 < (wordsOf l k).length then _ else _) = _
          rw [hwd.out, if_pos hpos]
        have hx3 : ∀ x ∈ E, StrsAt (w.heap.size + 10) (w5.setCell ⟨w.heap.size + 3, 0, none⟩ (.slice p' n' c')) x.2 x.1.2 := fun x hx =>
          ownsRow_mod (S := (· = w.heap.size + 3)) ((hE3.out x hx).grown hE2.out (by decide) hgrow) hset (fun b hb => by omega)
        have hxu : StrsAt (w.heap.size + 10) (w5.setCell ⟨w.heap.size + 3, 0, none⟩ (.slice p' n' c')) (.slice (some ⟨gb, 0, none⟩) ws.length ws.length) ws :=
          ownsRow_mod (S := (· = w.heap.size + 3)) (hst.out.grown hE2.out (by decide) hgrow) hset (fun b hb => by omega)
        have hxo := ownsRow_mod (S := (· = w.heap.size + 3)) hown' hset (fun b hb => by omega)
        refine ⟨fun b hb1 hb2 => (hm6.block b (by have := hF1.out.size; omega) (by omega)).trans (hF1.out.block b (by omega) (by omega)), ?_, hok2.out⟩
        rw [hln]
        refine ⟨hm6.heap hj1.out.h0 (by omega), hm6.heap hj1.out.h1 (by omega), hm6.heap hj1.out.h2 (by omega), ⟨.slice p' n' c', ?_, LinesAt.snoc hE1.out hx3 (N := k + 1) hxu hxo⟩, hm6.heap hj1.out.h4 (by omega), hm6.heap hj1.out.h5 (by omega), hm6.heap hj1.out.h6 (by omega), hm6.heap hj1.out.h7 (by omega), hj1.out.m.into hm6 fun b s => Or.inr (by omega)⟩
        rw [heap_setCell_eq (hm5.heap h3.out (by omega))]
        simp
  case done =>
    rintro W ⟨hj, hok⟩ hD
    rw [hsz] at hD ⊢
    have hN : partsN 10 l - 1 + 1 = partsN 10 l := by simp [partsN]
    rw [hN] at hj hok
    obtain ⟨v, h3, hlines⟩ := hj.h3
    obtain ⟨p, n, cp, rfl⟩ := hlines.slice
    have hc3 := cell_of_block h3 0 (v := .slice p n cp) rfl
    have hc0 := cell_of_block hj.h0 0 (v := .slice none 0 0) rfl
    have hc1 := cell_of_block hj.h1 0 (v := .int .i64 0) rfl
    have hc2 := cell_of_block hj.h2 0 (v := .int .i64 0) rfl
    have hf0 := frozen_of_block hj.h0 0
    have hf1 := frozen_of_block hj.h1 0
    have hf2 := frozen_of_block hj.h2 0
    replace hj := hide hj
    replace h3 := hide h3
    replace hlines := hide hlines
    replace hok := hide hok
    gi_wp2
    obtain ⟨Wz, hWz⟩ : ∃ Wz, ((W.setCell ⟨w.heap.size, 0, none⟩ (.slice p n cp)).setCell ⟨w.heap.size + 1, 0, none⟩ (.int .i64 0)).setCell ⟨w.heap.size + 2, 0, none⟩ (.int .i64 0) = Wz := ⟨_, rfl⟩
    have hmz : Mod (fun b => b < w.heap.size + 3 ∧ w.heap.size ≤ b) W Wz := by
      rw [← hWz]
      exact (((Mod.refl _ _).setCell (Or.inl (by simp)) _).setCell (Or.inl (by simp)) _).setCell (Or.inl (by simp)) _
    have z0 : Wz.heap[w.heap.size]? = some (.cells #[.slice p n cp] 151 (0, 0)) := by
      rw [← hWz, heap_setCell_ne (by simp), heap_setCell_ne (by simp), heap_setCell_eq hj.out.h0]; simp
    have z1 : Wz.heap[w.heap.size + 1]? = some (.cells #[.int .i64 0] 3 (0, 0)) := by
      rw [← hWz, heap_setCell_ne (by simp), heap_setCell_eq (c := #[.int .i64 0]) (t := 3) (fr := (0, 0)) (by rw [heap_setCell_ne (by simp)]; exact hj.out.h1)]; simp
    have z2 : Wz.heap[w.heap.size + 2]? = some (.cells #[.int .i64 0] 26 (0, 0)) := by
      rw [← hWz, heap_setCell_eq (c := #[.int .i64 0]) (t := 26) (fr := (0, 0)) (by rw [heap_setCell_ne (by simp), heap_setCell_ne (by simp)]; exact hj.out.h2)]; simp
    have hDz : Wz.heap[w.heap.size + 8]? = some (.deferred (some [])) := hmz.heap hD (by omega)
    simp only [hWz]
    refine ⟨by simp, .inl ⟨_, _, rfl, run_takeDeferred hDz, ?_⟩⟩
    have hmq : Mod (· = w.heap.size + 8) Wz (Wz.putObj (w.heap.size + 8) (.deferred none)) := Mod.putObj (S := (· = w.heap.size + 8)) (Mod.refl _ _) (Or.inl rfl) _
    refine ⟨_, res3 _ _ _ _ _ _ _ _ rfl rfl rfl (cell_of_block (hmq.heap z0 (by omega)) 0 rfl) (cell_of_block (hmq.heap z1 (by omega)) 0 rfl) (cell_of_block (hmq.heap z2 (by omega)) 0 rfl), ?_⟩
    exact ⟨.inr ⟨hok.out, _, rfl, (hlines.out.mod hmz (fun b s => by omega)).mod hmq (fun b s => by omega)⟩, (hj.out.m.into hmz fun b s => Or.inr s.2).into hmq fun b s => Or.inr (by omega)⟩
  case stop =>
    rintro W hx hD
    rw [hsz] at hD ⊢
    obtain ⟨⟨j, a1, a2, a3, a4⟩, h0, h2', m⟩ := hx
    gi_wp2
    refine ⟨by simp, .inl ⟨_, _, rfl, run_takeDeferred hD, ?_⟩⟩
    have hm : Mod (· = w.heap.size + 8) W (W.putObj (w.heap.size + 8) (.deferred none)) := Mod.putObj (S := (· = w.heap.size + 8)) (Mod.refl _ _) (Or.inl rfl) _
    refine ⟨_, res3 _ _ _ _ _ _ _ _ rfl rfl rfl (cell_of_block (hm.heap h0 (by omega)) 0 rfl) (cell_of_block (hm.heap a4 (by omega)) 0 rfl) (cell_of_block (hm.heap h2' (by omega)) 0 rfl), ?_⟩
    exact ⟨.inl ⟨j, a1, a2, a3, rfl⟩, m.into hm fun b s => Or.inr (by omega)⟩
end Go.Proofs.YtpjfiplejhbdfaaGreatDoor

namespace Go.Proofs.YtpjfiplejhbdfaaGreatDoor
open Go.RowKit

theorem go_sp {cur r : List UInt8} {b : UInt8} (h : Lib.isSp b = true) : Lib.fieldsGo cur (b :: r) = (if cur = [] then [] else [cur]) ++ Lib.fieldsGo [] r := by
  rw [Lib.fieldsGo, if_pos h]
  cases cur <;> simp
theorem go_on {cur r : List UInt8} {b : UInt8} (h : Lib.isSp b = false) : Lib.fieldsGo cur (b :: r) = Lib.fieldsGo (cur ++ [b]) r := by
  rw [Lib.fieldsGo, if_neg (by simp [h])]
theorem go_end (cur : List UInt8) : Lib.fieldsGo cur [] = if cur = [] then [] else [cur] := by
  rw [Lib.fieldsGo]
  cases cur <;> simp

/-- A word more, or none. -/
theorem StrsAt.snoc {base : Nat} {W : World} {v : Value} {O : List (List UInt8)} {x : List UInt8} (h : W.ownsRow base 9 1 v (O.length + 1) ((O.map fun s => .string (bs s)) ++ [.string (bs x)])) : StrsAt base W v (O ++ [x]) := by
  show W.ownsRow _ _ _ _ _ _
  simpa using h

end Go.Proofs.YtpjfiplejhbdfaaGreatDoor

namespace Go.Proofs.YtpjfiplejhbdfaaGreatDoor
open Go.RowKit

/-- A row of texts that is not empty: where it lies, its cells. -/
theorem StrsAt.open {base : Nat} {W : World} {v : Value} {ws : List (List UInt8)} (h : StrsAt base W v ws) (h0 : 0 < ws.length) : ∃ g cap, v = .slice (some ⟨g, 0, none⟩) ws.length cap ∧ base ≤ g ∧ ws.length ≤ cap ∧ ∀ j s, ws[j]? = some s → W.cell? ⟨g, j, none⟩ = some (.string (bs s)) := by
  rcases h.2 with ⟨_, h1⟩ | ⟨g, cap, cur, hv, hb, hg, hc, _, hsz, htk⟩
  · omega
  · refine ⟨g, cap, hv, hb, hc, fun j s hs => ?_⟩
    have hj : j < ws.length := (List.getElem?_eq_some_iff.mp hs).1
    have h2 : (cur.toList.take (ws.length * 1))[j]? = some (.string (bs s)) := by rw [htk, List.getElem?_map, hs]; rfl
    rw [Nat.mul_one, List.getElem?_take_of_lt hj, Array.getElem?_toList] at h2
    exact cell_of_block hg j h2

theorem own_len {W : World} {b : Nat} {e : TypeId} {z : Nat} {p : Option Addr} {n c m : Nat} {xs : List Value} (h : W.ownsRow b e z (.slice p n c) m xs) : n = m := by
  rcases h.2 with ⟨h1, h2⟩ | ⟨g, cap, cur, h1, _⟩
  · simp at h1; omega
  · simp at h1; exact h1.2.1

end Go.Proofs.YtpjfiplejhbdfaaGreatDoor

namespace Go.Proofs.YtpjfiplejhbdfaaGreatDoor
open Go.RowKit

theorem pairs_at {α : Type} (f g : α → Value) (E : List α) : ∀ j, (E.flatMap fun x => [f x, g x])[2 * j]? = E[j]?.map f ∧ (E.flatMap fun x => [f x, g x])[2 * j + 1]? = E[j]?.map g := by
  induction E with
  | nil => intro j; simp
  | cons x E ih =>
    intro j
    cases j with
    | zero => simp
    | succ j =>
      have := ih j
      rw [show 2 * (j + 1) = 2 * j + 1 + 1 by omega]
      simpa using this

/-- A row of lines: where it lies, what its cells are. -/
theorem LinesAt.open {T base : Nat} {W : World} {v : Value} {L : List (Nat × List (List UInt8))} (h : LinesAt T base W v L) : ∃ p cap, v = .slice p L.length cap ∧
    ∀ j x, L[j]? = some x → ∃ g u c, p = some ⟨g, 0, none⟩ ∧ W.cell? ⟨g, j * 2, none⟩ = some (.int .i64 x.1) ∧ W.cell? ⟨g, j * 2 + 1, none⟩ = some (.slice u x.2.length c) ∧ StrsAt base W (.slice u x.2.length c) x.2 := by
  obtain ⟨E, h1, h2, h3⟩ := h
  have hl : E.length = L.length := by rw [← h1]; simp
  rcases h2.2 with ⟨rfl, h0⟩ | ⟨g, cap, cur, rfl, hb, hg, hc, _, hsz, htk⟩
  · refine ⟨none, 0, by rw [← hl, h0], fun j x hx => ?_⟩
    have : j < L.length := (List.getElem?_eq_some_iff.mp hx).1
    omega
  · refine ⟨_, cap, by rw [hl], fun j x hx => ?_⟩
    rw [← h1, List.getElem?_map] at hx
    cases hE : E[j]? with
    | none => rw [hE] at hx; cases hx
    | some y =>
      rw [hE] at hx
      simp at hx
      subst hx
      have hj : j < E.length := (List.getElem?_eq_some_iff.mp hE).1
      have hs := h3 y (List.mem_of_getElem? hE)
      obtain ⟨u, n, c, hu⟩ := own_slice hs
      have hn : n = y.1.2.length := by rw [hu] at hs; exact own_len hs
      subst hn
      obtain ⟨p1, p2⟩ := pairs_at (fun x : (Nat × List (List UInt8)) × Value => .int .i64 x.1.1) (fun x => x.2) E j
      rw [hE] at p1 p2
      rw [← htk, List.getElem?_take_of_lt (by omega), Array.getElem?_toList] at p1 p2
      refine ⟨g, u, c, rfl, cell_of_block hg _ (by rw [Nat.mul_comm]; exact p1), cell_of_block hg _ (by rw [Nat.mul_comm]; rw [p2]; simp [hu]), by rw [← hu]; exact hs⟩

theorem words_len (l : List UInt8) (k : Nat) : (wordsOf l k).length ≤ l.length :=
  Nat.le_trans (fields_len _) (Nat.le_trans (upTo_le _ _) (Nat.le_trans (upTo_le _ _) (rest_len 10 l k)))

end Go.Proofs.YtpjfiplejhbdfaaGreatDoor

namespace Go.Proofs.YtpjfiplejhbdfaaGreatDoor
open Go.RowKit

/-- What the laws of chapter 5 take of the library's tables. -/
def LaidS (w : World) : Prop := Lib.TabIs Tryz.prog w "strings.asciiSpace" .u8 Lib.asciiSpaceTab
theorem gSpace : Tryz.prog.globalNamed "strings.asciiSpace" = some 2 := by kernel_rfl
theorem LaidS.mod {w w' : World} (h : LaidS w) (hm : Mod NoB w w') : LaidS w' := Mod.var hm gSpace id h

end Go.Proofs.YtpjfiplejhbdfaaGreatDoor

namespace Go.Proofs.YtpjfiplejhbdfaaGreatDoor
open Go.RowKit

theorem fieldsGo_word (l : List UInt8) (h : ∀ b ∈ l, Lib.isSp b = false) : ∀ cur, Lib.fieldsGo cur l = if cur ++ l = [] then [] else [cur ++ l] := by
  induction l with
  | nil => intro cur; rw [go_end]; simp
  | cons b l ih =>
    intro cur
    rw [go_on (h b (by simp)), ih (fun x hx => h x (by simp [hx])), List.append_assoc]
    rfl
theorem fields_word (l : List UInt8) (h : ∀ b ∈ l, Lib.isSp b = false) (h0 : l ≠ []) : Lib.fields l = [l] := by
  unfold Lib.fields
  rw [fieldsGo_word l h]
  simp [h0]

end Go.Proofs.YtpjfiplejhbdfaaGreatDoor

