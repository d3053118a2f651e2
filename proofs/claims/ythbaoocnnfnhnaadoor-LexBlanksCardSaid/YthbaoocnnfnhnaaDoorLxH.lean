/- The document's answer of chapter 5: the lines of a text. -/
import Derived.Test.YthbaoocnnfnhnaaDoorLxG
namespace Go.Proofs.YthbaoocnnfnhnaaDoor
open Go.RowKit

theorem own_base {W : World} {b b' : Nat} {e : TypeId} {z : Nat} {v : Value} {n : Nat} {xs : List Value} (h : W.ownsRow b e z v n xs) (hb : b' ≤ b) : W.ownsRow b' e z v n xs := by
  refine ⟨h.1, ?_⟩
  rcases h.2 with h0 | ⟨g, cap, cur, hv, hg, r⟩
  · exact Or.inl h0
  · exact Or.inr ⟨g, cap, cur, hv, Nat.le_trans hb hg, r⟩

/-- A row of texts that is not empty: where it lies, its cells. -/
theorem StrsAt.open {base : Nat} {W : World} {v : Value} {ws : List (List UInt8)} (h : StrsAt base W v ws) (h0 : 0 < ws.length) : ∃ g cap, v = .slice (some ⟨g, 0, none⟩) ws.length cap ∧ base ≤ g ∧ ws.length ≤ cap ∧ ∀ j s, ws[j]? = some s → W.cell? ⟨g, j, none⟩ = some (.string (bs s)) := by
  rcases h.2 with ⟨_, h1⟩ | ⟨g, cap, cur, hv, hb, hg, hc, _, hsz, htk⟩
  · omega
  · refine ⟨g, cap, hv, hb, hc, fun j s hs => ?_⟩
    have hj : j < ws.length := (List.getElem?_eq_some_iff.mp hs).1
    have h2 : (cur.toList.take (ws.length * 1))[j]? = some (.string (bs s)) := by rw [htk, List.getElem?_map, hs]; rfl
    rw [Nat.mul_one, List.getElem?_take_of_lt hj, Array.getElem?_toList] at h2
    exact cell_of_block hg j h2

theorem own_len {W : World} {b : Nat} {e : TypeId} {z : Nat} {p : Option Addr} {n c m : Nat} {xs : List Value} (h : W.ownsRow b e z (.slice p n c) m xs) : n = m := by
  rcases h.2 with ⟨h1, h2⟩ | ⟨g, cap, cur, h1, _⟩
  · simp at h1; omega
  · simp at h1; exact h1.2.1

theorem infoRLine : (Tryd.prog.info? 62).map (fun i => (i.zero, i.size, i.bytes)) = some (some (.agg #[.int .i64 0, .slice none 0 0]), 2, 32) := by kernel_rfl

/-- How the document's Lines ends at a text that is not too long. -/
def RLinesOut (w : World) (l : List UInt8) (e : Ending) (w' : World) : Prop :=
  ((∃ j : Nat, j < partsN 10 l ∧ okLine l j = false ∧ (∀ i, i < j → okLine l i = true) ∧ e = .returned (.tuple #[.slice none 0 0, .int .i64 ((j + 1 : Nat) : Int), .int .i64 6])) ∨
   ((∀ i, i < partsN 10 l → okLine l i = true) ∧ ∃ v, e = .returned (.tuple #[v, .int .i64 0, .int .i64 0]) ∧ LinesAt 62 w.heap.size w' v (linesTo l (partsN 10 l)))) ∧ Mod NoB w w'

set_option maxRecDepth 100000 in
set_option maxHeartbeats 8000000 in
theorem rlines_any (l : List UInt8) (w : World) (hl : l.length ≤ 65536) :
    Calls Tryd.prog 12 #[.string (bs l)] w (RLinesOut w l) := by
  obtain ⟨i0, hi, hz0, hz1, hz2⟩ := info_parts infoRLine
  replace hi := hide hi
  replace hz0 := hide hz0
  replace hz1 := hide hz1
  replace hz2 := hide hz2
  have hcn : l.count 10 ≤ l.length := List.count_le_length
  obtain ⟨N, hN⟩ : ∃ N, partsN 10 l = N := ⟨_, rfl⟩
  have hN6 : N ≤ 65537 := by rw [← hN]; simp only [partsN]; omega
  have hN0 : 0 < N := by rw [← hN]; simp [partsN]
  have hpl : (partsL 10 l N).length = N := by simp [partsL]
  have hwords := fun k => rwords_any (partF 10 l k)
  have hple : ∀ k, (partF 10 l k).length ≤ 1000000 := fun k => Nat.le_trans (upTo_le _ _) (Nat.le_trans (rest_len 10 l k) (by omega))
  replace hwords := hide hwords
  replace hple := hide hple
  unfold RLinesOut
  have hcut := rcut_any l 10 w (by omega)
  rw [hN] at hcut ⊢
  replace hcut := hide hcut
  replace hN := hide hN
  go_enter Tryd.func12, Tryd.ntmps12
  go_wp2_with fail
  refine hcut.out.mono ?_
  rintro e w1 ⟨v, rfl, hst, hm⟩
  obtain ⟨g, cap, rfl, hgb, hcap, hcells⟩ := hst.open (by omega)
  rw [hpl] at hcap ⊢
  replace hcells := hide hcells
  replace hst := hide hst
  replace hm := hide hm
  replace hcut := hide hcut
  go_wp2_with fail
  go_loopw [6, 7] (fun v vi wr => ∃ k : Nat, k ≤ N ∧ vi = .int .i64 k ∧ (∀ j, j < k → okLine l j = true) ∧ LinesAt 62 w.heap.size wr v (linesTo l k) ∧ StrsAt w.heap.size wr (.slice (some ⟨g, 0, none⟩) N cap) (partsL 10 l N) ∧ Mod NoB w wr) (fun _ vi _ => N - (intOf vi).toNat)
  case atStart => exact ⟨0, by omega, rfl, by omega, ⟨[], rfl, World.ownsRow_nil _ _ _ _, by simp⟩, by have := hst.out; rwa [hpl] at this, hm.out⟩
  case round =>
    clear hst hm hcells hcut
    obtain ⟨k, hk, rfl, hok, hln, hst, hm⟩ := hrel
    obtain ⟨p, n, cp, rfl⟩ := hln.slice
    obtain ⟨g', cap', hv, _, _, hcells⟩ := hst.open (by omega)
    simp only [Value.slice.injEq, Option.some.injEq, Addr.mk.injEq] at hv
    obtain ⟨⟨rfl, -⟩, -, rfl⟩ := hv
    have hsz := hm.size
    replace hok := hide hok
    replace hln := hide hln
    replace hst := hide hst
    replace hm := hide hm
    by_cases hlt : k < N
    · have hc := hcells k (partF 10 l k) (by simp [partsL, hlt])
      replace hcells := hide hcells
      go_wp2_with fail
      refine (hwords.out k _ (hple.out k)).mono ?_
      rintro e w2 ⟨(⟨hbad, rfl⟩ | ⟨hgood, u, rfl, hu⟩), hm2⟩
      · replace hbad : Hid (okLine l k = false) := hide hbad
        replace hm := hide (hm.out.trans hm2)
        clear hm2 hc
        go_wp2
        go_ret3
        exact ⟨.inl ⟨k, hlt, hbad.out, hok.out, rfl⟩, hm.out⟩
      · obtain ⟨p2, n2, c2, rfl⟩ := own_slice hu
        have hn2 := own_len hu
        have hwd : wordsOf l k = Lib.fields (upTo (partF 10 l k) 35) := rfl
        have hfn : (Lib.fields (upTo (partF 10 l k) 35)).length ≤ 65536 := by
          refine Nat.le_trans (fields_len _) (Nat.le_trans (upTo_le _ _) (Nat.le_trans (upTo_le _ _) (Nat.le_trans (rest_len 10 l k) hl)))
        have hok2 : Hid (∀ j, j < k + 1 → okLine l j = true) := hide (fun j hj => by
          rcases Nat.lt_or_ge j k with h | h
          · exact hok.out j h
          · obtain rfl : j = k := by omega
            exact hgood)
        clear hgood
        generalize Lib.fields (upTo (partF 10 l k) 35) = ws at hu hn2 hwd hfn
        subst hn2
        have hu2 : StrsAt w.heap.size w2 (.slice p2 ws.length c2) ws := own_base hu hsz
        have hln2 := hln.out.mod hm2 (fun _ h => h.elim)
        have hst2 : Hid (StrsAt w.heap.size w2 (.slice (some ⟨g, 0, none⟩) N cap) (partsL 10 l N)) := hide (ownsRow_mod hst.out hm2 (fun _ h => h.elim))
        replace hm := hide (hm.out.trans hm2)
        have hsz2 := hm2.size
        clear hm2 hu hst hln hc hcells
        replace hu2 := hide hu2
        replace hwd := hide hwd
        by_cases h0 : ws.length = 0
        · replace hln2 := hide hln2
          go_wp2
          go_roundw
          case rel =>
            refine ⟨k + 1, by omega, by go_num, hok2.out, ?_, hst2.out, hm.out⟩
            have : linesTo l (k + 1) = linesTo l k := by
              show linesTo l k ++ (if 0 < (wordsOf l k).length then _ else _) = _
              rw [hwd.out, if_neg (by omega)]
              simp
            rw [this]
            exact hln2.out
          case measure => simp [intOf]; omega
        · have hpos : 0 < ws.length := by omega
          clear h0
          obtain ⟨E, hE1, hE2, hE3⟩ := hln2
          have hEl : E.length ≤ 65537 := by
            have h1 := linesTo_len l k
            rw [← hE1] at h1
            simp at h1
            omega
          replace hE1 := hide hE1
          replace hE2 := hide hE2
          replace hE3 := hide hE3
          go_wp2_with (refine wpList_append_own _ rfl _ _ 27 rfl w.heap.size 62 i0 (.agg #[.int .i64 0, .slice none 0 0]) 2 32 Tryd.underlying27 hi.out hz0.out hz1.out hz2.out rfl (by decide) (.slice p n cp) E.length _ rfl (ownsRow_mod (S := NoB) hE2.out ((Mod.refl _ _).alloc _) (fun _ h => h.elim)) ⟨w2.heap.size, 0, none⟩ 1 1 [.int .i64 ((k : Int) + 1), .slice p2 ws.length c2] rfl rfl (cells_two_new _ _ _ _) (by intro u hu; simp at hu; rcases hu with rfl | rfl <;> rfl) (by unfold maxLen; omega) (by omega) (by simp; omega) ?_; intro v' w5 hown' hgrow _)
          go_roundw
          case rel =>
            refine ⟨k + 1, by omega, by go_num, hok2.out, ?_, hst2.out.grown hE2.out (by decide) hgrow, (hm.out.alloc _).grown hgrow (own_ge hE2.out)⟩
            have hln3 : linesTo l (k + 1) = linesTo l k ++ [(k + 1, ws)] := by
              show linesTo l k ++ (if 0 < (wordsOf l k).length then _ else _) = _
              rw [hwd.out, if_pos hpos]
            rw [hln3]
            exact LinesAt.snoc hE1.out (fun x hx => (hE3.out x hx).grown hE2.out (by decide) hgrow) (N := k + 1) (hu2.out.grown hE2.out (by decide) hgrow) hown'
          case measure => simp [intOf]; omega
    · obtain rfl : k = N := by omega
      go_wp2
      go_ret3
      exact ⟨.inr ⟨hok.out, _, rfl, hln.out⟩, hm.out⟩
end Go.Proofs.YthbaoocnnfnhnaaDoor
