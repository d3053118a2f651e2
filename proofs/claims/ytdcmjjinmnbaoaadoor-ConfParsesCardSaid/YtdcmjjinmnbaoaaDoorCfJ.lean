/- strings.Builder: what a write does, and what it leaves. (The shelf's contracts of the writing methods do not fit this dump's text of copyCheck.) -/
import Derived.Test.YtdcmjjinmnbaoaaDoorLxR
import Derived.Shelf.Strings.Builder1
namespace Go.Proofs.YtdcmjjinmnbaoaaDoor
open Go.RowKit Go.Shelf

/-- A builder of the call's own, in block b; its row lies from base on. -/
def BldAt (base b : Nat) (l : List UInt8) (w : World) : Prop := Lib.IsBuilder 66 5 base b (Lib.byteCells l) w

/-- A write to a builder: its own block, and rows of bytes, may have turned; nothing else. -/
def KeepB (base b : Nat) (w w' : World) : Prop := Mod (fun x => x = b ∨ (base ≤ x ∧ ∃ c f, w.heap[x]? = some (.cells c 5 f))) w w'
theorem KeepB.refl (base b : Nat) (w : World) : KeepB base b w w := Mod.refl _ _
theorem KeepB.trans {base b : Nat} {w w1 w2 : World} (h : KeepB base b w w1) (k : KeepB base b w1 w2) : KeepB base b w w2 :=
  ⟨k.os.trans h.os, k.tape.trans h.tape, k.output.trans h.output, Nat.le_trans h.size k.size, fun x hx hn => by
    have e1 := h.block x hx hn
    refine (k.block x (Nat.lt_of_lt_of_le hx h.size) ?_).trans e1
    rintro (rfl | ⟨hbx, c, f, hc⟩)
    · exact hn (Or.inl rfl)
    · rw [e1] at hc; exact hn (Or.inr ⟨hbx, c, f, hc⟩)⟩
theorem KeepB.of_mod {base b : Nat} {w w' : World} (h : Mod NoB w w') : KeepB base b w w' := h.mono fun _ _ f => f.elim
theorem KeepB.heap {base b : Nat} {w w' : World} (h : KeepB base b w w') {x : Nat} {c : Array Value} {t : TypeId} {f : Nat × Nat} (hx : w.heap[x]? = some (.cells c t f)) (hb : x ≠ b) (ht : t ≠ 5) : w'.heap[x]? = some (.cells c t f) :=
  Mod.heap h hx (by
    rintro (e | ⟨_, c', f', hc⟩)
    · exact hb e
    · rw [hx] at hc; simp at hc; exact ht hc.2.1)
theorem KeepB.set {base b : Nat} {w w' : World} (h : KeepB base b w w') (o : Nat) (v : Value) : KeepB base b w (w'.setCell ⟨b, o, none⟩ v) := Mod.setCell h (p := ⟨b, o, none⟩) (Or.inl (Or.inl rfl)) _
theorem KeepB.grown {b base : Nat} {w w2 : World} {v : Value} {n : Nat} {xs : List Value} (h : w.ownsRow base 5 1 v n xs) (hg : w.grownBy w2 v.ownBlock) : KeepB base b w w2 :=
  Mod.grownIn (Mod.refl _ _) hg (fun k hk => by
    rcases h.2 with ⟨h1, _⟩ | ⟨g, cap, cur, h1, _, hgc, _⟩
    · subst h1; simp [Value.ownBlock] at hk
    · have hge := own_ge h k hk
      subst h1; simp [Value.ownBlock] at hk; subst hk; exact Or.inr ⟨hge, _, _, hgc⟩)
theorem KeepB.low {base b : Nat} {w w' : World} (h : KeepB base b w w') (hb : base ≤ b) {x o : Nat} {v : Value} (hx : x < base) (hc : w.cell? ⟨x, o, none⟩ = some v) : w'.cell? ⟨x, o, none⟩ = some v := Mod.cellAt h (by rintro (e | ⟨e, _⟩) <;> omega) hc
theorem infoBld : (Tryd.prog.info? 66).map (·.size) = some 2 := by kernel_rfl
theorem infoByte : (Tryd.prog.info? 5).map (fun i => (i.zero, i.size, i.bytes)) = some (some (.int .u8 0), 1, 1) := by kernel_rfl
theorem liesBld : liesAt Tryd.prog Tryd.prog.depth 66 (2 / Tryd.prog.cellsOf 66) 0 66 1 = true := by kernel_rfl

set_option maxRecDepth 100000 in
set_option maxHeartbeats 1000000 in
theorem bcheck_used (b : Nat) (w : World) (h0 : w.cell? ⟨b, 0, none⟩ = some (.pointer (some ⟨b, 0, none⟩))) :
    Calls Tryd.prog 48 #[.pointer (some ⟨b, 0, none⟩)] w fun e w' => e = .returned (.tuple #[]) ∧ w' = w := by
  obtain ⟨j, hj, _⟩ := Option.map_eq_some_iff.1 infoBld
  go_enter Tryd.func48, Tryd.ntmps48
  go_wp2
  rw [Lib.run_neq_ptr_same w _ Tryd.underlying63 hj]
  go_wp2
  go_end0
  exact ⟨rfl, rfl⟩

set_option maxRecDepth 100000 in
set_option maxHeartbeats 1000000 in
theorem bcheck_fresh (b : Nat) (w : World) (h0 : w.cell? ⟨b, 0, none⟩ = some (.pointer none)) (hsh : w.shape? b = some (66, 2)) (hfz : w.frozen? ⟨b, 0, none⟩ = false) :
    Calls Tryd.prog 48 #[.pointer (some ⟨b, 0, none⟩)] w fun e w' => e = .returned (.tuple #[]) ∧ w' = w.setCell ⟨b, 0, none⟩ (.pointer (some ⟨b, 0, none⟩)) := by
  obtain ⟨j, hj, hjs⟩ := Option.map_eq_some_iff.1 infoBld
  go_enter Tryd.func48, Tryd.ntmps48
  go_wp2
  rw [Lib.run_to_unsafe w ⟨b, 0, none⟩ Tryd.underlying63 Tryd.underlying107 hj (by rw [hjs]; decide) hsh (Nat.zero_lt_succ 1)]
  simp only [Result.andThen]
  rw [Oper.upon_value]
  go_wp2
  rw [run_callFunc_extern Tryd.func59 (by kernel_rfl) (by kernel_rfl) (by kernel_rfl) (e := Extern.AbiNoEscape.same) (by kernel_rfl)]
  rw [Lib.run_noEscape]
  simp only [Result.andThen]
  rw [Oper.upon_value]
  go_wp2
  rw [Lib.run_from_unsafe w ⟨b, 0, none⟩ Tryd.underlying107 Tryd.underlying63 hj hsh liesBld]
  simp only [Result.andThen]
  rw [Oper.upon_value]
  go_wp2
  go_end0
  exact ⟨rfl, rfl⟩

/-- Behind copyCheck the builder is used; only its own block has turned. -/
theorem bcheck_any (base b : Nat) (l : List UInt8) (w : World) (h : BldAt base b l w) :
    Calls Tryd.prog 48 #[.pointer (some ⟨b, 0, none⟩)] w fun e w' => e = .returned (.tuple #[]) ∧ Lib.BuilderAt 66 5 base b (.pointer (some ⟨b, 0, none⟩)) (Lib.byteCells l) w' ∧ KeepB base b w w' := by
  rcases h with h | h
  · refine (bcheck_fresh b w h.cell0 h.shape h.frozen0).mono ?_
    rintro e w' ⟨rfl, rfl⟩
    exact ⟨rfl, h.used _, (KeepB.refl _ _ _).set _ _⟩
  · refine (bcheck_used b w h.cell0).mono ?_
    rintro e w' ⟨rfl, rfl⟩
    exact ⟨rfl, h, KeepB.refl _ _ _⟩

theorem str_bytes (l : List UInt8) : Lib.strCells (bs l) = Lib.byteCells l := by
  unfold Lib.strCells Lib.byteCells
  rfl

set_option maxRecDepth 100000 in
set_option maxHeartbeats 2000000 in
theorem bwrite_any (base b : Nat) (l s : List UInt8) (w : World) (h : BldAt base b l w) (hlen : l.length + s.length ≤ 100000000) (hbw : base ≤ w.heap.size) :
    Calls Tryd.prog 26 #[.pointer (some ⟨b, 0, none⟩), .string (bs s)] w fun e w' => (∃ x y, e = .returned (.tuple #[x, y])) ∧ BldAt base b (l ++ s) w' ∧ KeepB base b w w' := by
  obtain ⟨i0, hi, hz0, hz1, hz2⟩ := info_parts infoByte
  have hbl : (Lib.byteCells l).length = l.length := by simp [Lib.byteCells]
  have hck := hide (bcheck_any base b l w h)
  clear h
  go_enter Tryd.func26, Tryd.ntmps26
  go_wp2_with fail
  refine hck.out.mono ?_
  rintro e w1 ⟨rfl, ⟨hB, v, hbk, hown, hne⟩, hm1⟩
  have c0 := cell_of_block hbk 0 (v := .pointer (some ⟨b, 0, none⟩)) rfl
  have c1 := cell_of_block hbk 1 (v := v) rfl
  have hss : (bs s).size = s.length := rfl
  go_wp2_with (at_builtin; refine Lib.wpList_append_own_string _ rfl _ _ 64 9 rfl base 5 i0 Tryd.underlying64 Tryd.underlying9 hi hz0 hz1 hz2 _ _ _ rfl hown (bs s) rfl ?c3 ?c4 ?c5 ?_)
  case c3 => rw [hbl, hss]; unfold maxLen; omega
  case c4 => rw [hbl, hss]; omega
  case c5 => have := hm1.size; omega
  intro v' w2 hown' hgrow _
  have hlt := lt_of_block hbk
  have hb2 : w2.heap[b]? = some (.cells #[.pointer (some ⟨b, 0, none⟩), v] 66 (0, 0)) := by
    rw [hgrow.block b hlt (fun e => hne e.symm)]
    exact hbk
  have d0 := cell_of_block hb2 0 (v := .pointer (some ⟨b, 0, none⟩)) rfl
  have d1 := cell_of_block hb2 1 (v := v) rfl
  have f1 := frozen_of_block hb2 1
  obtain ⟨ao, n', cap, rfl⟩ := own_slice hown'
  have hfin : KeepB base b w (w2.setCell ⟨b, 1, none⟩ (.slice ao n' cap)) := (hm1.trans (KeepB.grown hown hgrow)).set _ _
  have hcells : Lib.byteCells (l ++ s) = Lib.byteCells l ++ Lib.strCells (bs s) := by rw [str_bytes]; simp [Lib.byteCells]
  have hput := hide (Lib.BuilderAt.put (T := 66) (e := 5) hB hb2 (bs' := Lib.byteCells (l ++ s)) (by rw [hcells, List.length_append, Lib.strCells_length, hbl]; exact hown') (by decide))
  replace hfin := hide hfin
  clear hm1 hgrow hown' hown hne hb2 hbk hck hcells
  go_wp2
  go_ret2
  exact ⟨⟨_, _, rfl⟩, Or.inr hput.out, hfin.out⟩

set_option maxRecDepth 100000 in
set_option maxHeartbeats 2000000 in
theorem bbyte_any (base b : Nat) (l : List UInt8) (c : UInt8) (w : World) (h : BldAt base b l w) (hlen : l.length + 1 ≤ 100000000) (hbw : base ≤ w.heap.size) :
    Calls Tryd.prog 28 #[.pointer (some ⟨b, 0, none⟩), .int .u8 (c.toNat : Nat)] w fun e w' => (∃ x, e = .returned x) ∧ BldAt base b (l ++ [c]) w' ∧ KeepB base b w w' := by
  obtain ⟨i0, hi, hz0, hz1, hz2⟩ := info_parts infoByte
  have hbl : (Lib.byteCells l).length = l.length := by simp [Lib.byteCells]
  have hck := hide (bcheck_any base b l w h)
  clear h
  go_enter Tryd.func28, Tryd.ntmps28
  go_wp2_with fail
  refine hck.out.mono ?_
  rintro e w1 ⟨rfl, ⟨hB, v, hbk, hown, hne⟩, hm1⟩
  have c0 := cell_of_block hbk 0 (v := .pointer (some ⟨b, 0, none⟩)) rfl
  have c1 := cell_of_block hbk 1 (v := v) rfl
  go_wp2_with (at_builtin; refine wpList_append_own _ rfl _ _ 64 rfl base 5 i0 (.int .u8 0) 1 1 Tryd.underlying64 hi hz0 hz1 hz2 rfl (by decide) _ _ _ rfl (hown.alloc _) ⟨w1.heap.size, 0, none⟩ 1 1 [.int .u8 (c.toNat : Nat)] rfl rfl ?c1 ?c2 ?c3 ?c4 ?c5 ?_)
  case c1 => exact cell_one_new _ _ _
  case c2 => intro u hu; simp at hu; subst hu; rfl
  case c3 => rw [hbl]; unfold maxLen; omega
  case c4 => rw [hbl]; omega
  case c5 => have := hm1.size; simp; omega
  intro v' w2 hown' hgrow _
  have hlt := lt_of_block hbk
  have hb2 : w2.heap[b]? = some (.cells #[.pointer (some ⟨b, 0, none⟩), v] 66 (0, 0)) := by
    rw [hgrow.block b (by simp; omega) (fun e => hne e.symm), heap_alloc_old hlt]
    exact hbk
  have d0 := cell_of_block hb2 0 (v := .pointer (some ⟨b, 0, none⟩)) rfl
  have d1 := cell_of_block hb2 1 (v := v) rfl
  have f1 := frozen_of_block hb2 1
  obtain ⟨ao, n', cap, rfl⟩ := own_slice hown'
  have hfin : KeepB base b w (w2.setCell ⟨b, 1, none⟩ (.slice ao n' cap)) := ((hm1.trans (KeepB.of_mod ((Mod.refl _ _).alloc _))).trans (KeepB.grown (hown.alloc _) hgrow)).set _ _
  have hcells : Lib.byteCells (l ++ [c]) = Lib.byteCells l ++ [.int .u8 (c.toNat : Nat)] := by simp [Lib.byteCells]
  have hput := hide (Lib.BuilderAt.put (T := 66) (e := 5) hB hb2 (bs' := Lib.byteCells (l ++ [c])) (by rw [hcells, List.length_append, hbl]; exact hown') (by decide))
  replace hfin := hide hfin
  clear hm1 hgrow hown' hown hne hb2 hbk hck hcells
  go_wp2
  go_ret
  exact ⟨⟨_, rfl⟩, Or.inr hput.out, hfin.out⟩
end Go.Proofs.YtdcmjjinmnbaoaaDoor
