/- Package wake, at int (contracts). wake.Next, at int (contract). Package backoff: New, and the methods, as contracts on the block that holds the object. Package backoff: set, Fail and Good, as contracts on the block that holds the object. Package backoff: Fail, however often; package peer: a peer's block, State, late, rest, Late, Due, Next (contracts). -/
import Derived.Test.YtpjfiplejhbdfaaGreatDoorPUae
import Derived.Test.YtpjfiplejhbdfaaGreatDoorPUaq
import Derived.Test.YtpjfiplejhbdfaaGreatDoorPUaa
import Derived.StillTailTactics
import Derived.Test.YtpjfiplejhbdfaaGreatDoorPUac
import Derived.Test.YtpjfiplejhbdfaaGreatDoorPUam
import Derived.Test.YtpjfiplejhbdfaaGreatDoorPUad
namespace Go.Proofs.YtpjfiplejhbdfaaGreatDoor
set_option linter.unusedSimpArgs false
open Go.RowKit Go.MapKept

def qent (i : Nat) (x : Int × Int) : MapEntry := { key := .int .i64 i, val := .agg #[.int .i64 x.1, .int .i64 x.2], born := i }
def qes (L : List (Int × Int)) : List MapEntry := (List.range L.length).map fun i => qent i (L.getD i (0, 0))
theorem qes_len (L : List (Int × Int)) : (qes L).length = L.length := by simp [qes]
theorem qes_at (L : List (Int × Int)) (i : Nat) (h : i < L.length) : (qes L)[i]? = some (qent i (L.getD i (0, 0))) := by simp [qes, h]
theorem qes_mem {L : List (Int × Int)} {x : MapEntry} (h : x ∈ qes L) : ∃ i, i < L.length ∧ x = qent i (L.getD i (0, 0)) := by
  obtain ⟨i, hi, rfl⟩ := List.mem_map.1 h
  exact ⟨i, List.mem_range.1 hi, rfl⟩
theorem qes_key {L : List (Int × Int)} : ∀ x ∈ qes L, IsKey (.int .i64) x.key := by
  intro x hx
  obtain ⟨i, _, rfl⟩ := qes_mem hx
  exact rfl
theorem qes_snoc (L : List (Int × Int)) (y : Int × Int) : qes (L ++ [y]) = qes L ++ [qent L.length y] := by
  apply List.ext_getElem?
  intro i
  rcases Nat.lt_trichotomy i L.length with h | h | h
  · rw [qes_at _ _ (by simp; omega), List.getElem?_append_left (by rw [qes_len]; exact h), qes_at _ _ h]
    simp [List.getD, List.getElem?_append_left h]
  · subst h
    rw [qes_at _ _ (by simp), List.getElem?_append_right (by rw [qes_len]; exact Nat.le_refl _)]
    simp [qes_len, List.getD]
  · rw [List.getElem?_eq_none (by rw [qes_len]; simp; omega), List.getElem?_eq_none (by simp [qes_len]; omega)]
theorem qes_set (L : List (Int × Int)) (j : Nat) (y : Int × Int) (hj : j < L.length) (f : MapEntry → MapEntry) (hf : f (qent j (L.getD j (0, 0))) = qent j y) : (qes L).modify j f = qes (L.set j y) := by
  apply List.ext_getElem?
  intro i
  rw [List.getElem?_modify]
  rcases Nat.lt_or_ge i L.length with h | h
  · rw [qes_at _ _ h, qes_at _ _ (by simpa using h)]
    by_cases hij : j = i
    · subst hij
      have : (L.set j y).getD j (0, 0) = y := by simp [List.getD, hj]
      rw [this]
      simp only [if_pos rfl]
      exact congrArg some ((if_pos trivial).trans hf)
    · simp [hij, List.getD, List.getElem?_set_ne hij]
  · rw [List.getElem?_eq_none (by rw [qes_len]; omega), List.getElem?_eq_none (by rw [qes_len]; simpa using h)]
    simp
/-- Block b holds a queue; bm: its map's block; L: when each key is due, and its number. -/
structure QO (w : World) (b bm : Nat) (L : List (Int × Int)) : Prop where
  blk : ∃ n, w.heap[b]? = some (.cells #[.map (some bm), .int .i64 n] 169 (0, 0))
  map : w.heap[bm]? = some (.map (qes L).toArray L.length)
theorem QO.mod {S : Nat → Prop} {w w' : World} {b bm : Nat} {L : List (Int × Int)} (h : QO w b bm L) (hm : Mod S w w') (hb : ¬ S b) (hk : ¬ S bm) : QO w' b bm L :=
  ⟨let ⟨n, hn⟩ := h.blk; ⟨n, hm.heap hn hb⟩, hm.heap h.map hk⟩
theorem run_insQ {P : Program} {t kt et : TypeId} (ht : P.underlying t = some (.map kt et)) (hkt : P.underlying kt = some (.int .i64)) {w : World} {r : Nat} {L : List (Int × Int)} (y : Int × Int) (hb : w.heap[r]? = some (.map (qes L).toArray L.length)) :
    (Instr.mapUpdate t (.map (some r)) (.int .i64 L.length) (.agg #[.int .i64 y.1, .int .i64 y.2])).run P w = .ok () (setO w r (.map (qes (L ++ [y])).toArray (L.length + 1))) := by
  have hk : IsKey (.int .i64) (.int .i64 (L.length : Int)) := rfl
  have hf : Instr.findNow (.int .i64) (.int .i64 (L.length : Int)) (qes L).toArray.toList 0 = some none := by
    rcases findNow_spec hk (qes L).toArray.toList 0 qes_key with ⟨h, _⟩ | ⟨j, e, _, h2, h3⟩
    · exact h
    · obtain ⟨i, hi, rfl⟩ := qes_mem (List.mem_of_getElem? h2)
      simp [qent] at h3
      omega
  have hck : ∀ e, (Instr.checkKey e 10000 kt (.int .i64 (L.length : Int))).run P w = .ok () w := fun e => Go.MapKept.run_checkKey hkt hk e 9999
  unfold Instr.mapUpdate
  simp [run_underlying ht, Go.MapKept.run_getObj_map hb, Go.MapKept.run_setObj_map _ hb, hck, run_findKey hkt hf, go_sem, qes_snoc]
  rfl
theorem run_updQ {P : Program} {t kt et : TypeId} (ht : P.underlying t = some (.map kt et)) (hkt : P.underlying kt = some (.int .i64)) {w : World} {r : Nat} {L : List (Int × Int)} (k : Nat) (hkl : k < L.length) (y : Int × Int) (hb : w.heap[r]? = some (.map (qes L).toArray L.length)) :
    (Instr.mapUpdate t (.map (some r)) (.int .i64 k) (.agg #[.int .i64 y.1, .int .i64 y.2])).run P w = .ok () (setO w r (.map (qes (L.set k y)).toArray L.length)) := by
  have hk : IsKey (.int .i64) (.int .i64 (k : Int)) := rfl
  obtain ⟨v, hf⟩ : ∃ v, Instr.findNow (.int .i64) (.int .i64 (k : Int)) (qes L).toArray.toList 0 = some (some (k, v)) := by
    rcases findNow_spec hk (qes L).toArray.toList 0 qes_key with ⟨_, h⟩ | ⟨j, e, h1, h2, h3⟩
    · exact absurd rfl (h _ (List.mem_of_getElem? (qes_at L k hkl)))
    · rw [h1]
      have hj : j < L.length := by
        rcases Nat.lt_or_ge j L.length with h | h
        · exact h
        · rw [List.getElem?_eq_none (by simpa [qes_len] using h)] at h2; cases h2
      have h2' : (qes L)[j]? = some e := h2
      rw [qes_at L j hj] at h2'
      cases h2'
      simp [qent] at h3
      exact ⟨_, by rw [Nat.zero_add, show j = k by omega]⟩
  have hck : ∀ e, (Instr.checkKey e 10000 kt (.int .i64 (k : Int))).run P w = .ok () w := fun e => Go.MapKept.run_checkKey hkt hk e 9999
  have hge : (Option.map (fun x => x.key) (qes L)[k]?).getD (.int .i64 (k : Int)) = .int .i64 (k : Int) := by
    rw [qes_at L k hkl]; rfl
  have hsb : Instr.sameBits 10000 (.int .i64 (k : Int)) (.int .i64 (k : Int)) = true := by simp [Instr.sameBits]
  have hset := qes_set L k y hkl (fun e => { key := .int .i64 (k : Int), val := .agg #[.int .i64 y.1, .int .i64 y.2], born := e.born }) rfl
  unfold Instr.mapUpdate
  simp [run_underlying ht, Go.MapKept.run_getObj_map hb, Go.MapKept.run_setObj_map _ hb, hck, run_findKey hkt hf, go_sem, hge, Instr.keyThatStays, hsb, hset]
  rfl
/-- A key set. -/
def qput (L : List (Int × Int)) (k : Nat) (y : Int × Int) : List (Int × Int) := if k = L.length then L ++ [y] else L.set k y
theorem qnew_any (w : World) :
    Calls Tryz.prog 37 #[] w fun e w' => ∃ b bm, e = .returned (at0 b) ∧ QO w' b bm [] ∧ w.heap.size ≤ b ∧ w.heap.size ≤ bm ∧ b ≠ bm ∧ Mod NoB w w' := by
  have hmm := @run_makeMap Tryz.prog
  go_enter Tryz.func37, Tryz.ntmps37
  go_wp2
  go_ret
  have h1 := heap_alloc_new (w.alloc (.map #[] 0)) (.cells #[.map (some w.heap.size), .int .i64 0] 169)
  rw [World.size_alloc] at h1
  exact ⟨_, w.heap.size, rfl, ⟨⟨0, h1⟩, (heap_alloc_old (by simp) _).trans (heap_alloc_new _ _)⟩, by omega, Nat.le_refl _, by omega, ((Mod.refl _ _).alloc _).alloc _⟩
set_option maxRecDepth 100000 in
theorem qset_any (b bm : Nat) (L : List (Int × Int)) (k : Nat) (hk : k ≤ L.length) (x : Int) (w : World) (hq : QO w b bm L) (hne : b ≠ bm) :
    Calls Tryz.prog 41 #[at0 b, .int .i64 k, .int .i64 x] w fun e w' =>
      (∃ r, e = .returned r) ∧ (∃ s, QO w' b bm (qput L k (x, s))) ∧ Mod (fun j => j = b ∨ j = bm) w w' := by
  obtain ⟨⟨n, hb⟩, hm⟩ := hq
  have k0 := cell_of_block hb 0 rfl
  have k1 := cell_of_block hb 1 rfl
  have z1 := frozen_of_block hb 1
  replace hb := hide hb
  replace hm := hide hm
  go_enter Tryz.func41, Tryz.ntmps41
  go_wp2_with fail
  have hb2 : (w.setCell ⟨b, 1, none⟩ (.int .i64 (wrap64 (n + 1)))).heap[b]? = some (.cells #[.map (some bm), .int .i64 (wrap64 (n + 1))] 169 (0, 0)) := heap_setCell_eq hb.out _
  have hm2 : (w.setCell ⟨b, 1, none⟩ (.int .i64 (wrap64 (n + 1)))).heap[bm]? = _ := (heap_setCell_ne (Ne.symm hne) _).trans hm.out
  have hmw : Mod (· = b) w (w.setCell ⟨b, 1, none⟩ (.int .i64 (wrap64 (n + 1)))) := (Mod.refl _ _).set1 _ _
  generalize w.setCell ⟨b, 1, none⟩ (.int .i64 (wrap64 (n + 1))) = w2 at *
  clear k0 k1 z1
  have y0 := cell_of_block hb2 0 rfl
  have y1 := cell_of_block hb2 1 rfl
  have hlb := lt_of_block hb2
  have hlm := lt_of_block hm2
  have hup : ∃ L', qput L k (x, wrap64 (n + 1)) = L' ∧
      (Instr.mapUpdate 167 (.map (some bm)) (.int .i64 k) (.agg #[.int .i64 x, .int .i64 (wrap64 (n + 1))])).run Tryz.prog w2.drew = .ok () (setO w2.drew bm (.map (qes L').toArray L'.length)) := by
    by_cases hkl : k = L.length
    · subst hkl
      refine ⟨_, rfl, ?_⟩
      unfold qput
      rw [if_pos rfl]
      have := run_insQ (P := Tryz.prog) Tryz.underlying167 Tryz.underlying3 (w := w2.drew) (x, wrap64 (n + 1)) hm2
      simpa using this
    · refine ⟨_, rfl, ?_⟩
      unfold qput
      rw [if_neg hkl]
      have := run_updQ (P := Tryz.prog) Tryz.underlying167 Tryz.underlying3 (w := w2.drew) k (by omega) (x, wrap64 (n + 1)) hm2
      simpa using this
  obtain ⟨L', hL', hup⟩ := hup
  replace hm2 := hide hm2
  replace hb2 := hide hb2
  replace hmw := hide hmw
  replace hL' := hide hL'
  go_still_tail 11, (by kernel_rfl)
  change wpList _ _ _ _ _ w2.drew
  have hbf : (setO w2.drew bm (.map (qes L').toArray L'.length)).heap[b]? = _ := (setO_mod (w := w2.drew) (r := bm) (.map (qes L').toArray L'.length)).heap hb2.out hne
  have hmf : (setO w2.drew bm (.map (qes L').toArray L'.length)).heap[bm]? = _ := setO_same (w := w2.drew) (.map (qes L').toArray L'.length) hlm
  have hmod : Mod (fun j => j = b ∨ j = bm) w (setO w2.drew bm (.map (qes L').toArray L'.length)) := (hmw.out.drew.mono (fun _ _ h => Or.inl h)).trans ((setO_mod (w := w2.drew) _).mono (fun _ _ h => Or.inr h))
  obtain ⟨wf, hwf⟩ : ∃ wf, setO w2.drew bm (.map (qes L').toArray L'.length) = wf := ⟨_, rfl⟩
  rw [hwf] at hbf hmf hmod hup
  clear hwf
  replace hbf := hide hbf
  replace hmf := hide hmf
  replace hmod := hide hmod
  go_wp2_with fail
  go_end0
  exact ⟨⟨_, rfl⟩, ⟨wrap64 (n + 1), by rw [hL'.out]; exact ⟨⟨_, hbf.out⟩, hmf.out⟩⟩, hmod.out⟩
set_option maxRecDepth 100000 in
theorem qlen_any (b bm : Nat) (L : List (Int × Int)) (w : World) (hq : QO w b bm L) :
    Calls Tryz.prog 83 #[at0 b] w fun e w' => e = .returned (.int .i64 L.length) ∧ w = w' := by
  obtain ⟨⟨n, hb⟩, hm⟩ := hq
  have k0 := cell_of_block hb 0 rfl
  have hlen : (qes L).toArray.size = L.length := by simp [qes_len]
  replace hb := hide hb
  go_enter Tryz.func83, Tryz.ntmps83
  have hln := run_len_map (P := Tryz.prog) (w := w) 167 3 bm (qes L).toArray L.length (by kernel_rfl) hm
  rw [hlen] at hln
  go_wp2_with fail
  go_ret
  exact ⟨rfl, rfl⟩
end Go.Proofs.YtpjfiplejhbdfaaGreatDoor

namespace Go.Proofs.YtpjfiplejhbdfaaGreatDoor
set_option linter.unusedSimpArgs false
open Go.RowKit Go.MapKept

def qat (L : List (Int × Int)) (i : Nat) : Int := (L.getD i (0, 0)).1
def IsMinQ (v : Int) (L : List (Int × Int)) : Prop := (∃ i, i < L.length ∧ v = qat L i) ∧ ∀ i, i < L.length → v ≤ qat L i
/-- What the loop knows. -/
def NextAt (L : List (Int × Int)) (seen : Array Nat) (f : Int) (sm : Bool) : Prop :=
  (sm = false → f = 0 ∧ ∀ i, i < L.length → seen.contains i = false) ∧ (sm = true → (∃ i, i < L.length ∧ f = qat L i) ∧ ∀ i, i < L.length → seen.contains i = true → f ≤ qat L i)
set_option maxRecDepth 100000 in
set_option maxHeartbeats 4000000 in
theorem qnext_any (b bm : Nat) (L : List (Int × Int)) (hL : 0 < L.length) (hL2 : L.length ≤ 1000) (w : World) (hq : QO w b bm L) :
    Calls Tryz.prog 47 #[at0 b] w fun e w' => (∃ v, e = .returned (.tuple #[.int .i64 v, .bool true]) ∧ IsMinQ v L) ∧ Mod NoB w w' := by
  have hln := hide (qlen_any b bm L w hq)
  obtain ⟨⟨n, hb⟩, hm⟩ := hq
  have k0 := cell_of_block hb 0 rfl
  have hold : ∀ x ∈ (qes L).toArray.toList, x.born < L.length := by
    intro x hx
    obtain ⟨i, hi, rfl⟩ := qes_mem hx
    exact hi
  have hnd : ((qes L).toArray.toList.map (·.born)).Nodup := by
    have : (qes L).toArray.toList.map (·.born) = List.range L.length := by
      simp only [qes, List.map_map]
      have : ((fun x : MapEntry => x.born) ∘ fun i => qent i (L.getD i (0, 0))) = id := rfl
      rw [this, List.map_id]
    rw [this]
    exact List.nodup_range
  have hl0 : ((L.length : Int) == 0) = false := beq_eq_false_iff_ne.mpr (by omega)
  replace hb := hide hb
  replace hm := hide hm
  replace hold := hide hold
  replace hnd := hide hnd
  have hlb := lt_of_block hm.out
  go_enter Tryz.func47, Tryz.ntmps47
  go_wp2_with fail
  refine hln.out.mono ?_
  rintro e w' ⟨rfl, rfl⟩
  go_wp2_with (at_range; refine wpList_range_raw rfl _ 167 rfl 3 189 Tryz.underlying167 bm (qes L).toArray L.length rfl hm.out hold.out hnd.out ?_; intro w5 hit5 hm5 hsz5)
  go_frame
  obtain ⟨rit, hrit⟩ : ∃ rit, w.heap.size = rit := ⟨_, rfl⟩
  rw [hrit] at hit5 ⊢
  have hbr : bm ≠ rit := by omega
  replace hm5 := hide hm5
  replace hit5 := hide hit5
  clear k0 hsz5
  go_loopw [4, 5] (fun vf vs wr => ∃ (seen : Array Nat) (f : Int) (sm : Bool), vf = .int .i64 f ∧ vs = .bool sm ∧ ItAt wr rit bm (qes L).toArray L.length seen ∧ Mod (· = rit) w5 wr ∧ NextAt L seen f sm) (fun _ _ wr => itLeft wr bm rit)
  case atStart => exact ⟨#[], 0, false, rfl, rfl, hit5.out, Mod.refl _ _, fun _ => ⟨rfl, fun i hi => by simp⟩, fun h => by cases h⟩
  case round =>
    obtain ⟨seen, f, sm, rfl, rfl, hit, hmr, hna⟩ := hrel
    replace hna := hide hna
    replace hmr := hide hmr
    go_wp2_with (at_next; refine wpList_next_raw rfl _ rfl rit bm (qes L).toArray L.length seen rfl hit ?_ ?_)
    · intro hdone
      have hseen : ∀ i, i < L.length → seen.contains i = true := fun i hi => by
        have := hdone (qent i (L.getD i (0, 0))) (List.mem_of_getElem? (qes_at L i hi))
        simpa [Array.contains_iff_mem] using (show i ∈ seen from this)
      have hsm : sm = true := by
        cases sm with
        | true => rfl
        | false => have := (hna.out.1 rfl).2 0 hL; rw [hseen 0 hL] at this; cases this
      subst hsm
      have hmin : IsMinQ f L := ⟨(hna.out.2 rfl).1, fun i hi => (hna.out.2 rfl).2 i hi (hseen i hi)⟩
      have hfin : Mod NoB w wr := hm5.out.into hmr.out (fun b h => Or.inr (by omega))
      replace hmin := hide hmin
      replace hfin := hide hfin
      clear hdone hseen
      go_wp2_with fail
      go_ret2
      exact ⟨⟨f, rfl, hmin.out⟩, hfin.out⟩
    · intro e w6 hem hns hit6 hm6 hsz6 hlt6 hen
      obtain ⟨i, hi, rfl⟩ := qes_mem (by simpa using hem)
      have hkey : (qent i (L.getD i (0, 0))).key = .int .i64 (i : Int) := rfl
      have hval : (qent i (L.getD i (0, 0))).val = .agg #[.int .i64 (qat L i), .int .i64 (L.getD i (0, 0)).2] := rfl
      have hborn : (qent i (L.getD i (0, 0))).born = i := rfl
      rw [hkey, hval] at hen
      rw [hborn] at hit6 hns
      rw [hkey, hval]
      generalize (L.getD i (0, 0)).2 = s2 at *
      have hmw : Mod (· = rit) w5 (w6.alloc (.cells #[.int .i64 (qat L i), .int .i64 s2] 189)) := (hmr.out.trans hm6).alloc _
      have hitw : ItAt (w6.alloc (.cells #[.int .i64 (qat L i), .int .i64 s2] 189)) rit bm (qes L).toArray L.length (seen.push i) := hit6.keep ((Mod.refl NoB w6).alloc _) id id
      have hlw : itLeft (w6.alloc (.cells #[.int .i64 (qat L i), .int .i64 s2] 189)) bm rit < itLeft wr bm rit := by rw [hitw.left]; rw [hit6.left] at hlt6; exact hlt6
      have hnew : ∀ f', (f' = qat L i ∧ (sm = true → qat L i < f)) ∨ (f' = f ∧ sm = true ∧ f ≤ qat L i) → NextAt L (seen.push i) f' true := by
        intro f' hf'
        refine ⟨(fun h => by cases h), fun _ => ⟨?_, fun j hj hc => ?_⟩⟩
        · rcases hf' with ⟨h, _⟩ | ⟨h, h2, _⟩
          · exact ⟨i, hi, h⟩
          · rw [h]; exact (hna.out.2 h2).1
        · have hc2 : seen.contains j = true ∨ j = i := by
            simpa [Array.contains_iff_mem] using hc
          rcases hf' with ⟨h, h2⟩ | ⟨h, h2, h3⟩
          · rcases hc2 with h4 | h4
            · cases hsm : sm with
              | false => have := (hna.out.1 hsm).2 j hj; rw [h4] at this; cases this
              | true => have := (hna.out.2 hsm).2 j hj h4; have := h2 hsm; omega
            · subst h4; omega
          · rcases hc2 with h4 | h4
            · have := (hna.out.2 h2).2 j hj h4; omega
            · subst h4; omega
      replace hnew := hide hnew
      replace hit6 := hide hit6
      replace hm6 := hide hm6
      replace hmw := hide hmw
      replace hitw := hide hitw
      replace hlw := hide hlw
      clear hem hns hkey hval hborn hlt6 hsz6 hit
      cases sm with
      | false =>
        go_wp2_with fail
        go_roundw
        case rel => exact ⟨seen.push i, qat L i, true, rfl, rfl, hitw.out, hmw.out, hnew.out _ (Or.inl ⟨rfl, fun h => by cases h⟩)⟩
        case measure => exact hlw.out
      | true =>
        by_cases hlt : qat L i < f
        · go_wp2_with fail
          go_roundw
          case rel => exact ⟨seen.push i, qat L i, true, rfl, rfl, hitw.out, hmw.out, hnew.out _ (Or.inl ⟨rfl, fun _ => hlt⟩)⟩
          case measure => exact hlw.out
        · go_wp2_with fail
          go_roundw
          case rel => exact ⟨seen.push i, f, true, rfl, rfl, hitw.out, hmw.out, hnew.out _ (Or.inr ⟨rfl, by trivial, by omega⟩)⟩
          case measure => exact hlw.out
end Go.Proofs.YtpjfiplejhbdfaaGreatDoor

namespace Go.Proofs.YtpjfiplejhbdfaaGreatDoor
open Go.RowKit

theorem bk_within_any (n : Int) (hn : I64 n) (w : World) :
    Calls Tryz.prog 112 #[.int .i64 n] w fun e w' => e = .returned (.bool (decide (4 ≤ n) && decide (n ≤ 1024))) ∧ w = w' := by
  obtain ⟨h1, h2⟩ := hn
  go_enter Tryz.func112, Tryz.ntmps112
  go_wp2
  all_goals
    go_ret
    refine ⟨?_, rfl⟩
    congr 2
    simp
    try omega

theorem new_ok (l m : Int) (hl : I64 l) (hm : I64 m) (h1 : (decide (4 ≤ l) && decide (l ≤ 1024)) = true) (h2 : (decide (4 ≤ m) && decide (m ≤ 1024)) = true) (h : l ≤ m) (w : World) :
    Calls Tryz.prog 75 #[.int .i64 l, .int .i64 m] w (NewPost l m w) := by
  go_enter Tryz.func75, Tryz.ntmps75
  go_wp2_with (go_at_call 112; refine (bk_within_any _ (by assumption) _).mono ?_; rintro e w' ⟨rfl, rfl⟩)
  go_ret2
  exact ⟨w.heap.size, rfl, Nat.le_refl _, heap_alloc_new w _, (Mod.refl _ _).alloc _⟩

/-! ### the methods of a nil one -/
/-! ### the methods of one that is there -/
theorem goodf_any (n t l : Int) (b bb : Nat) (w : World) (hc : w.cell? ⟨bb, 0, none⟩ = some (at0 b))
    (h1 : w.cell? ⟨b, 0, none⟩ = some (.int .i64 l)) :
    Calls Tryz.prog 179 #[.int .i64 n, .int .i64 t, at0 bb] w fun e w' =>
      e = .returned (.tuple #[.int .i64 l, .int .i64 0]) ∧ w = w' := by
  go_enter Tryz.func179, Tryz.ntmps179
  go_wp2
  go_ret2
  exact ⟨rfl, rfl⟩

end Go.Proofs.YtpjfiplejhbdfaaGreatDoor

namespace Go.Proofs.YtpjfiplejhbdfaaGreatDoor
open Go.RowKit

theorem setCells {w : World} {b : Nat} {l m n t : Int} (hb : BO w b l m n t) (n' t' : Int) :
    BO ((w.setCell ⟨b, 2, none⟩ (.int .i64 n')).setCell ⟨b, 3, none⟩ (.int .i64 t')) b l m n' t' :=
  heap_setCell_eq (heap_setCell_eq hb _) _

theorem set_good (b bb : Nat) (l m n t : Int) (w : World) (hb : BO w b l m n t)
    (hc : w.cell? ⟨bb, 0, none⟩ = some (at0 b)) :
    Calls Tryz.prog 141 #[at0 b, .func (.func 179) #[] #[at0 bb]] w (BkPost b l m l 0 l w) := by
  have h0 := cell_of_block hb 0 rfl
  have h2 := cell_of_block hb 2 rfl
  have h3 := cell_of_block hb 3 rfl
  have g2 := frozen_of_block hb 2
  have g3 := frozen_of_block hb 3
  have HB : Hid (BO w b l m n t) := hb
  clear hb
  go_enter Tryz.func141, Tryz.ntmps141
  go_wp2_with fail
  go_region_with ((go_at_call 179; refine (goodf_any _ _ l b _ _ ?_ ?_).mono ?_; go_simp; go_simp; rintro e w' ⟨rfl, rfl⟩))
  all_goals
    go_wp2
    go_ret
    exact ⟨rfl, setCells HB.out _ _, (((Mod.refl _ _).set1 _ _).set1 _ _).drew⟩

theorem good_any (b : Nat) (l m n t : Int) (w : World) (hb : BO w b l m n t) :
    Calls Tryz.prog 147 #[at0 b] w (BkPost b l m l 0 l w) := by
  have hmf : ∀ (fn : Fn) (first cap : Array Value) (w : World), (Instr.makeFunc fn first cap).run Tryz.prog w = .ok (.func fn first cap) w := fun _ _ _ _ => rfl
  have hlt := lt_of_block hb
  have HB : Hid (BO w b l m n t) := hb
  clear hb
  go_enter Tryz.func147, Tryz.ntmps147
  go_wp2_with fail
  refine (set_good b w.heap.size l m n t _ ((heap_alloc_old hlt _).trans HB.out) ?_).mono ?_
  · exact cell_of_block (heap_alloc_new w _) 0 rfl
  · rintro e w' ⟨rfl, h1, h2⟩
    go_wp2
    go_ret
    exact ⟨rfl, h1, ((Mod.refl _ _).alloc _).into h2 fun _ h => Or.inl h⟩

end Go.Proofs.YtpjfiplejhbdfaaGreatDoor

namespace Go.Proofs.YtpjfiplejhbdfaaGreatDoor
open Go.RowKit

theorem failf2_any (n t m : Int) (b bb : Nat) (w : World) (hc : w.cell? ⟨bb, 0, none⟩ = some (at0 b))
    (h1 : w.cell? ⟨b, 1, none⟩ = some (.int .i64 m)) (hm : I64 m) (hn : I64 n) :
    Calls Tryz.prog 142 #[.int .i64 n, .int .i64 t, at0 bb] w fun e w' =>
      e = .returned (.tuple #[.int .i64 (nextZ n m), .int .i64 (wrap64 (t + 1))]) ∧ w = w' := by
  go_enter Tryz.func142, Tryz.ntmps142
  go_wp2_with (go_at_call 143; refine (next_any _ _ hn hm _).mono ?_; rintro e w' ⟨rfl, rfl⟩)
  go_ret2
  exact ⟨rfl, rfl⟩
theorem set_fail2 (b bb : Nat) (l m n t : Int) (w : World) (hb : BO w b l m n t)
    (hc : w.cell? ⟨bb, 0, none⟩ = some (at0 b)) (hm : I64 m) (hn : I64 n) :
    Calls Tryz.prog 141 #[at0 b, .func (.func 142) #[] #[at0 bb]] w (BkPost b l m (nextZ n m) (wrap64 (t + 1)) (nextZ n m) w) := by
  have h1 := cell_of_block hb 1 rfl
  have h2 := cell_of_block hb 2 rfl
  have h3 := cell_of_block hb 3 rfl
  have g2 := frozen_of_block hb 2
  have g3 := frozen_of_block hb 3
  have HB : Hid (BO w b l m n t) := hb
  clear hb
  go_enter Tryz.func141, Tryz.ntmps141
  go_wp2_with fail
  go_region_with ((go_at_call 142; refine (failf2_any _ _ m b _ _ ?_ ?_ hm hn).mono ?_; go_simp; go_simp; rintro e w' ⟨rfl, rfl⟩))
  all_goals
    go_wp2
    go_ret
    exact ⟨rfl, setCells HB.out _ _, (((Mod.refl _ _).set1 _ _).set1 _ _).drew⟩
theorem fail2_any (b : Nat) (l m n t : Int) (w : World) (hb : BO w b l m n t) (hm : I64 m) (hn : I64 n) :
    Calls Tryz.prog 115 #[at0 b] w (BkPost b l m (nextZ n m) (wrap64 (t + 1)) (nextZ n m) w) := by
  have hmf : ∀ (fn : Fn) (first cap : Array Value) (w : World), (Instr.makeFunc fn first cap).run Tryz.prog w = .ok (.func fn first cap) w := fun _ _ _ _ => rfl
  have hlt := lt_of_block hb
  have HB : Hid (BO w b l m n t) := hb
  clear hb
  go_enter Tryz.func115, Tryz.ntmps115
  go_wp2_with fail
  refine (set_fail2 b w.heap.size l m n t _ ((heap_alloc_old hlt _).trans HB.out) ?_ hm hn).mono ?_
  · exact cell_of_block (heap_alloc_new w _) 0 rfl
  · rintro e w' ⟨rfl, h1, h2⟩
    go_wp2
    go_ret
    exact ⟨rfl, h1, ((Mod.refl _ _).alloc _).into h2 fun _ h => Or.inl h⟩
/-- Block b holds a peer's own cells; bk: its backoff's block. -/
def PB (w : World) (b bk : Nat) (p : PeerS) : Prop :=
  w.heap[b]? = some (.cells #[at0 bk, .int .i64 p.state, .int .i64 p.due, .int .i64 p.patience, .int .i64 p.sent, .int .i64 p.clock, .int .u64 (p.cookie : Int)] 180 (0, 0))
structure PeerO (w : World) (b bk : Nat) (p : PeerS) : Prop where
  pb : PB w b bk p
  bo : ∃ t, BO w bk p.l p.m p.n t
theorem PeerO.mod {S : Nat → Prop} {w w' : World} {b bk : Nat} {p : PeerS} (h : PeerO w b bk p) (hm : Mod S w w') (hb : ¬ S b) (hk : ¬ S bk) : PeerO w' b bk p :=
  ⟨hm.heap h.pb hb, let ⟨t, ht⟩ := h.bo; ⟨t, hm.heap ht hk⟩⟩
theorem PeerO.ne {w : World} {b bk : Nat} {p : PeerS} (h : PeerO w b bk p) : b ≠ bk := by
  obtain ⟨h1, t, h2⟩ := h
  intro e
  subst e
  have := h1.symm.trans h2
  exact absurd (Obj.cells.inj (Option.some.inj this)).2.1 (by decide)
theorem pstate_any (b bk : Nat) (p : PeerS) (w : World) (h : PB w b bk p) :
    Calls Tryz.prog 140 #[at0 b] w fun e w' => e = .returned (.int .i64 p.state) ∧ w = w' := by
  have k1 := cell_of_block h 1 rfl
  clear h
  go_enter Tryz.func140, Tryz.ntmps140
  go_wp2
  go_ret
  exact ⟨rfl, rfl⟩
theorem plate_any (b bk : Nat) (p : PeerS) (hp : p.Ok) (h : Int) (w : World) (hb : PB w b bk p) :
    Calls Tryz.prog 113 #[at0 b, .int .i64 h] w fun e w' => e = .returned (.bool (p.isLate h)) ∧ Mod NoB w w' := by
  have k1 := cell_of_block hb 1 rfl
  have k3 := cell_of_block hb 3 rfl
  have k4 := cell_of_block hb 4 rfl
  have hst := fun x : Since w => Since.call x (fun w' hm => (pstate_any b bk p w' (hm.heap hb id)).mono fun _ _ ⟨h1, h2⟩ => ⟨h1, h2 ▸ Mod.refl NoB w'⟩)
  have y3 := fun x : Since w => Since.cell k3 x
  have y4 := fun x : Since w => Since.cell k4 x
  obtain ⟨v, hv⟩ : ∃ v, p.isLate h = v := ⟨_, rfl⟩
  rw [hv]
  have hw1 : wrap64 (p.sent + p.patience) = p.sent + p.patience := by
    have := hp.s0; have := hp.s1; have := hp.p0; have := hp.p1
    unfold maxHard at *
    rw [wrap64_eq, wrap_in ⟨by omega, by omega⟩]
  have hw2 : IntKind.i64.wrap (p.sent + p.patience) = p.sent + p.patience := by rw [← wrap64_eq]; exact hw1
  unfold PeerS.isLate at hv
  replace hv := hide hv
  replace hst := hide hst
  clear k1 k3 k4
  replace hb := hide hb
  go_enter Tryz.func113, Tryz.ntmps113
  go_wp2_with fail
  by_cases hs : p.state = 1
  · have hs1 : ((p.state : Int) == 1) = true := by simpa using hs
    refine wp_region_mod (by kernel_rfl) (by kernel_rfl) ?_
    repeat (go_big_quiet_step ((go_at_call 140; exact hst.out _)))
    refine wpQuiet_nil ?_
    rintro _ ⟨⟨w3, hm3⟩, rfl⟩
    replace hm3 := hide hm3
    go_wp2
    go_ret
    refine ⟨bool_ret ?_, hm3.out⟩
    rw [← hv.out]
    simp [hs]
  · have hs1 : ((p.state : Int) == 1) = false := by simpa using hs
    refine wp_region_mod (by kernel_rfl) (by kernel_rfl) ?_
    repeat (go_big_quiet_step ((go_at_call 140; exact hst.out _)))
    refine wpQuiet_nil ?_
    rintro _ ⟨⟨w3, hm3⟩, rfl⟩
    replace hm3 := hide hm3
    go_wp2
    go_ret
    refine ⟨bool_ret ?_, hm3.out⟩
    rw [← hv.out]
    simp [hs]
end Go.Proofs.YtpjfiplejhbdfaaGreatDoor

