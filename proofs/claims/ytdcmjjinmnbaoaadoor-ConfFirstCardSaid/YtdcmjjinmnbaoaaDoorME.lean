/- The document's numbers of words (chapter 6). The document's line of a config (chapter 6), walked. The document's Parse of a config (chapter 6), walked. The document's example of chapter 6. The document's Print of a config (chapter 6), walked. A config handed in by value. -/
import Derived.Test.YtdcmjjinmnbaoaaDoorMD
import Derived.Test.YtdcmjjinmnbaoaaDoorMC
import Derived.Test.YtdcmjjinmnbaoaaDoorMB
import Derived.Lib.SmallJoins
import Derived.Deep.Fields
import Derived.ChangeSlices
namespace Go.Proofs.YtdcmjjinmnbaoaaDoor
open Go.RowKit

abbrev pair2 (x y : Int) : Array Value := #[.int .i64 x, .int .i64 y]
theorem set2 {W : World} {B : Nat} {x0 x1 : Value} {T : TypeId} (h : W.heap[B]? = some (.cells #[x0, x1] T (0, 0))) (y0 y1 : Value) :
    ∃ W2, (W.setCell ⟨B, 0, none⟩ y0).setCell ⟨B, 1, none⟩ y1 = W2 ∧ W2.heap[B]? = some (.cells #[y0, y1] T (0, 0)) ∧ Mod (· = B) W W2 := by
  refine ⟨_, rfl, ?_, ((Mod.refl _ _).set1 _ _).set1 _ _⟩
  have h1 := heap_setCell_eq (o := 0) h y0
  have h2 := heap_setCell_eq (o := 1) h1 y1
  rw [h2]
  rfl

/-- How the document's numbers end. -/
def NumsOut (ns : List (List UInt8)) (e : Ending) : Prop :=
  (numsE ns = 0 ∧ e = .returned (.tuple #[.agg (pair2 ((numsV ns ns.length).getD 0 0) ((numsV ns ns.length).getD 1 0)), .int .i64 0])) ∨
  (numsE ns ≠ 0 ∧ ∃ x y : Int, e = .returned (.tuple #[.agg (pair2 x y), .int .i64 (numsE ns)]))

set_option maxRecDepth 100000 in
set_option maxHeartbeats 8000000 in
theorem rnumbers_any (ns : List (List UInt8)) (g o cap : Nat) (w : World) (hw : ∀ j s, ns[j]? = some s → w.cell? ⟨g, o + j, none⟩ = some (.string (bs s))) (hn2 : ns.length ≤ 2) (hlen : ∀ s ∈ ns, s.length ≤ 1000000) :
    Calls Tryd.prog 47 #[.slice (some ⟨g, o, none⟩) ns.length cap] w fun e w' => NumsOut ns e ∧ Mod NoB w w' := by
  have hcw := hide hw
  have hnum := fun (i : Nat) (s : List UInt8) (h : ns[i]? = some s) w' => rnumber_any s w' (hlen s (List.mem_of_getElem? h))
  replace hnum := hide hnum
  have hB0 : ((w.alloc (.cells #[.int .i64 0, .int .i64 0] 95)).alloc (.cells #[.int .i64 0, .int .i64 0] 95)).heap[w.heap.size]? = some (.cells (pair2 0 0) 95 (0, 0)) := (heap_alloc_old (by simp) _).trans (heap_alloc_new _ _)
  have hB1 : ((w.alloc (.cells #[.int .i64 0, .int .i64 0] 95)).alloc (.cells #[.int .i64 0, .int .i64 0] 95)).heap[w.heap.size + 1]? = some (.cells (pair2 0 0) 95 (0, 0)) := by
    have := heap_alloc_new (w.alloc (.cells #[.int .i64 0, .int .i64 0] 95)) (.cells #[.int .i64 0, .int .i64 0] 95)
    rwa [World.size_alloc] at this
  have hm0 : Mod NoB w ((w.alloc (.cells #[.int .i64 0, .int .i64 0] 95)).alloc (.cells #[.int .i64 0, .int .i64 0] 95)) := ((Mod.refl _ _).alloc _).alloc _
  replace hB0 := hide hB0
  replace hB1 := hide hB1
  replace hm0 := hide hm0
  clear hw
  go_enter Tryd.func47, Tryd.ntmps47
  go_wp2_with fail
  go_loopw [5] (fun vi wr => ∃ (i : Nat), i ≤ ns.length ∧ vi = .int .i64 i ∧ wr.heap[w.heap.size]? = some (.cells (pair2 0 0) 95 (0, 0)) ∧ wr.heap[w.heap.size + 1]? = some (.cells (pair2 ((numsV ns i).getD 0 0) ((numsV ns i).getD 1 0)) 95 (0, 0)) ∧ (∀ j, j < i → (numR (ns.getD j [])).2 = 0) ∧ Mod NoB w wr) (fun vi _ => ns.length - (intOf vi).toNat)
  case atStart => exact ⟨0, by omega, rfl, hB0.out, hB1.out, by omega, hm0.out⟩
  case round =>
    obtain ⟨i, hil, rfl, hb0, hb1, hz, hm⟩ := hrel
    by_cases hlt : i < ns.length
    · obtain ⟨s, hs⟩ : ∃ s, ns[i]? = some s := ⟨ns[i], by simp [hlt]⟩
      have hcs : wr.cell? ⟨g, o + i, none⟩ = some (.string (bs s)) := hm.cellAt id (hcw.out i s hs)
      have hcall := hnum.out i s hs wr
      have hsn := hide (numsV_succ hs)
      have hnl := hide (numsV_len (ns := ns) (i := i) (by omega))
      have hgd : Hid (ns.getD i [] = s) := hide (by simp [List.getD, hs])
      obtain ⟨v, er, hr⟩ : ∃ v er, numR s = (v, er) := ⟨_, _, rfl⟩
      rw [hr] at hcall hsn
      replace hcall := hide hcall
      replace hr := hide hr
      replace hs := hide hs
      replace hm := hide hm
      replace hz := hide hz
      replace hb0 := hide hb0
      replace hb1 := hide hb1
      have hi0 : (0 : Int) ≤ (i : Int) := by omega
      have hi1 : (i : Int) < (ns.length : Int) := by omega
      go_wp2_with fail
      refine hcall.out.mono ?_
      rintro e w2 ⟨rfl, hm2⟩
      have hb0' := hm2.heap hb0.out id
      have hb1' := hm2.heap hb1.out id
      replace hm := hide (hm.out.trans hm2)
      have hB : w.heap.size < w2.heap.size := lt_of_block hb0'
      clear hm2
      have a0 := cell_of_block hb1' 0 rfl
      have a1 := cell_of_block hb1' 1 rfl
      have c0 := cell_of_block hb0' 0 (v := .int .i64 0) rfl
      have c1 := cell_of_block hb0' 1 (v := .int .i64 0) rfl
      have f0 := frozen_of_block hb1' 0
      have f1 := frozen_of_block hb1' 1
      have d0 := frozen_of_block hb0' 0
      have d1 := frozen_of_block hb0' 1
      by_cases he : er = 0
      · subst he
        have hz2' : Hid (∀ j, j < i + 1 → (numR (ns.getD j [])).2 = 0) := hide (by
          intro j hj
          by_cases hji : j < i
          · exact hz.out j hji
          · obtain rfl : j = i := by omega
            rw [hgd.out, hr.out])
        have hsto : ∃ u, w2.cell? ⟨w.heap.size + 1, i, none⟩ = some u := by
          rcases (by omega : i = 0 ∨ i = 1) with rfl | rfl
          · exact ⟨_, a0⟩
          · exact ⟨_, a1⟩
        obtain ⟨u, hu⟩ := hsto
        have hfu := frozen_of_block hb1' i
        have hset := heap_setCell_eq (o := i) hb1' (.int .i64 v)
        have hset2 : Hid ((w2.setCell ⟨w.heap.size + 1, i, none⟩ (.int .i64 v)).heap[w.heap.size + 1]? = some (.cells (pair2 ((numsV ns (i + 1)).getD 0 0) ((numsV ns (i + 1)).getD 1 0)) 95 (0, 0))) := hide (by
          rw [hset, hsn.out]
          have hl := hnl.out
          rcases (by omega : i = 0 ∨ i = 1) with rfl | rfl
          · have h0 : numsV ns 0 = [] := rfl
            rw [h0]; rfl
          · obtain ⟨x, hx⟩ : ∃ x, numsV ns 1 = [x] := List.length_eq_one_iff.1 hl
            rw [hx]; rfl)
        have hs0 : Hid ((w2.setCell ⟨w.heap.size + 1, i, none⟩ (.int .i64 v)).heap[w.heap.size]? = some (.cells (pair2 0 0) 95 (0, 0))) := hide ((heap_setCell_ne (by show w.heap.size ≠ w.heap.size + 1; omega) _).trans hb0')
        have hms : Hid (Mod NoB w (w2.setCell ⟨w.heap.size + 1, i, none⟩ (.int .i64 v))) := hide (hm.out.setCell (Or.inr (by show w.heap.size ≤ w.heap.size + 1; omega)) _)
        have hi2 : (i : Int) < 2 := by omega
        clear hset a0 a1 c0 c1 f0 f1 d0 d1 hb0' hb1'
        go_wp2_with fail
        go_roundw
        case rel => exact ⟨i + 1, by omega, by go_num, hs0.out, hset2.out, hz2'.out, hms.out⟩
        case measure => simp [intOf]; omega
      · have heb : (er != 0) = true := by simpa [bne_iff_ne] using he
        have hne : Hid (numsE ns = er) := hide (by
          have := numsE_at hz.out hlt (by rw [hgd.out, hr.out]; exact he)
          rw [this, hgd.out, hr.out])
        obtain ⟨x, hx⟩ : ∃ x, (numsV ns i).getD 0 0 = x := ⟨_, rfl⟩
        obtain ⟨y, hy⟩ : ∃ y, (numsV ns i).getD 1 0 = y := ⟨_, rfl⟩
        rw [hx] at a0
        rw [hy] at a1
        replace hx := hide hx
        replace hy := hide hy
        obtain ⟨W2, hW2, hb2, hm2⟩ := set2 hb0' (.int .i64 x) (.int .i64 y)
        have hmf : Hid (Mod NoB w W2) := hide (hm.out.into hm2 (fun b e => Or.inr (by omega)))
        replace hW2 := hide hW2
        replace hb2 := hide hb2
        replace hb0' := hide hb0'
        replace hb1' := hide hb1'
        clear hm2
        go_wp2
        rw [hW2.out]
        clear a0 a1 c0 c1 f0 f1 d0 d1
        have b0 := cell_of_block hb2.out 0 (v := .int .i64 x) rfl
        have b1 := cell_of_block hb2.out 1 (v := .int .i64 y) rfl
        refine bodyPost_ret (v := .tuple #[.agg (pair2 x y), .int .i64 er]) (by simp [results, Tryd.results47, go_sem, b0, b1]) rfl ⟨Or.inr ⟨by rw [hne.out]; exact he, x, y, by rw [hne.out]⟩, hmf.out⟩
    · obtain rfl : i = ns.length := by omega
      have a0 := cell_of_block hb1 0 rfl
      have a1 := cell_of_block hb1 1 rfl
      have c0 := cell_of_block hb0 0 (v := .int .i64 0) rfl
      have c1 := cell_of_block hb0 1 (v := .int .i64 0) rfl
      have d0 := frozen_of_block hb0 0
      have d1 := frozen_of_block hb0 1
      have hne := hide (numsE_all hz)
      obtain ⟨x, hx⟩ : ∃ x, (numsV ns ns.length).getD 0 0 = x := ⟨_, rfl⟩
      obtain ⟨y, hy⟩ : ∃ y, (numsV ns ns.length).getD 1 0 = y := ⟨_, rfl⟩
      rw [hx] at a0
      rw [hy] at a1
      replace hx := hide hx
      replace hy := hide hy
      obtain ⟨W2, hW2, hb2, hm2⟩ := set2 hb0 (.int .i64 x) (.int .i64 y)
      have hmf : Hid (Mod NoB w W2) := hide (hm.into hm2 (fun b e => Or.inr (by omega)))
      replace hW2 := hide hW2
      replace hb2 := hide hb2
      replace hb0 := hide hb0
      replace hb1 := hide hb1
      replace hz := hide hz
      clear hm2
      go_wp2
      rw [hW2.out]
      clear a0 a1 c0 c1 d0 d1
      have b0 := cell_of_block hb2.out 0 (v := .int .i64 x) rfl
      have b1 := cell_of_block hb2.out 1 (v := .int .i64 y) rfl
      refine bodyPost_ret (v := .tuple #[.agg (pair2 x y), .int .i64 0]) (by simp [results, Tryd.results47, go_sem, b0, b1]) rfl ⟨Or.inl ⟨hne.out, by rw [hx.out, hy.out]⟩, hmf.out⟩
end Go.Proofs.YtdcmjjinmnbaoaaDoor
namespace Go.Proofs.YtdcmjjinmnbaoaaDoor
open Go.RowKit

def seenV (s : Nat → Bool) : Array Value := #[.bool (s 0), .bool (s 1), .bool (s 2), .bool (s 3), .bool (s 4)]
/-- What the document's line works on. -/
structure RS (base bc bn : Nat) (st : St) (w : World) : Prop where
  cfg : CfgAt base bc st.1 w
  seen : w.heap[bn]? = some (.cells (seenV st.2) 59 (0, 0))
  low : bc < base ∧ bn < base
  size : base ≤ w.heap.size
theorem RS.ne {base bc bn : Nat} {st : St} {w : World} (h : RS base bc bn st w) : bc ≠ bn := by
  obtain ⟨v, h1, _⟩ := h.cfg
  rintro rfl
  have := h.seen
  rw [h1] at this
  simp [seenV] at this
theorem RS.keep {base bc bn : Nat} {st : St} {w w' : World} (h : RS base bc bn st w) (hm : Mod NoB w w') : RS base bc bn st w' :=
  ⟨let ⟨v, h1, h2⟩ := h.cfg; ⟨v, hm.heap h1 id, ownsRow_mod h2 hm (fun _ f => f.elim)⟩, hm.heap h.seen id, h.low, Nat.le_trans h.size hm.size⟩

def keysV : Array Value := #[.string ⟨#[115, 101, 114, 118, 101, 114]⟩, .string ⟨#[113, 117, 111, 114, 117, 109]⟩, .string ⟨#[112, 111, 108, 108]⟩, .string ⟨#[100, 101, 108, 97, 121]⟩, .string ⟨#[115, 108, 101, 119]⟩]
theorem keys_at : ∀ k, k < 5 → keysV[k]? = some (.string (bs (keyW k))) := by
  intro k hk
  rcases bounds5 k hk with rfl | rfl | rfl | rfl | rfl <;> rfl
theorem keyOf_at {s : List UInt8} {k : Nat} (hk : k < 5) (h : keyW k = s) : keyOf s = some k := by rw [← h]; exact keyOf_keyW hk
theorem keyOf_no {s : List UInt8} (h : ∀ j, j < 5 → keyW j ≠ s) : keyOf s = none := by
  cases hk : keyOf s with
  | none => rfl
  | some k => exact absurd (keyOf_some hk).2 (h k (keyOf_some hk).1)

def RLineOut (base bc bn : Nat) (st : St) (ws : List (List UInt8)) (e : Ending) (w' : World) : Prop :=
  e = .returned (.int .i64 (lineR ws st).1) ∧ ((lineR ws st).1 = 0 → RS base bc bn (lineR ws st).2 w')

set_option maxRecDepth 100000 in
set_option maxHeartbeats 16000000 in
theorem rline_any (base bc bn : Nat) (st : St) (s0 : List UInt8) (ns : List (List UInt8)) (g cap : Nat) (w : World) (hC : RS base bc bn st w) (hw : WordsAt g (s0 :: ns) w)
    (hcap : ns.length + 1 ≤ cap) (hcm : cap ≤ 9223372036854775807) (hnl : ns.length ≤ 1000000) (hlen : ∀ s ∈ ns, s.length ≤ 1000000) (h16 : st.1.srv.length ≤ 1000) :
    Calls Tryd.prog 24 #[at0c bc 0, at0c bn 0, .slice (some ⟨g, 0, none⟩) (ns.length + 1) cap] w fun e w' => RLineOut base bc bn st (s0 :: ns) e w' ∧ Mod (fun x => x = bc ∨ x = bn ∨ base ≤ x) w w' := by
  have hc := hw 0 s0 rfl
  have hcl := lt_of_cell hc
  obtain ⟨W1, hW1⟩ : ∃ W1, w.alloc (.cells keysV 9) = W1 := ⟨_, rfl⟩
  have hk1 : Hid (W1.heap[w.heap.size]? = some (.cells keysV 9 (0, 0))) := hide (by rw [← hW1]; exact heap_alloc_new _ _)
  have hm1 : Hid (Mod NoB w W1) := hide (by rw [← hW1]; exact (Mod.refl _ _).alloc _)
  have hc1 : Hid (W1.cell? ⟨g, 0, none⟩ = some (.string (bs s0))) := hide (hm1.out.cellAt id hc)
  unfold keysV at hW1
  replace hC := hide hC
  replace hw := hide hw
  replace hW1 := hide hW1
  have hcapi : (1 : Int) ≤ (cap : Int) := by omega
  go_enter Tryd.func24, Tryd.ntmps24
  go_wp2_with fail
  rw [hW1.out]
  go_loopw [8] (fun vi wr => ∃ (i : Nat), i ≤ 5 ∧ vi = .int .i64 i ∧ (∀ j, j < i → keyW j ≠ s0) ∧ Mod NoB W1 wr) (fun vi _ => 5 - (intOf vi).toNat)
  case atStart => exact ⟨0, by omega, rfl, by omega, Mod.refl _ _⟩
  case round =>
    obtain ⟨k, hk5, rfl, hno, hm⟩ := hrel
    have hcr := hm.cellAt id hc1.out
    have hk0 : (0 : Int) ≤ (k : Int) := by omega
    by_cases hlt : k < 5
    · have hkey := cell_of_block (hm.heap hk1.out id) k (keys_at k hlt)
      have hd : decide ((k : Int) < 5) = true := by simp; omega
      by_cases hks : keyW k = s0
      · have hkk : Hid (keyOf s0 = some k) := hide (keyOf_at hlt hks)
        have hne : (keyW k == s0) = true := by rw [hks]; simp
        have hcl1 : Mod NoB w wr := hm1.out.trans hm
        have hkx : keyOf ((s0 :: ns).getD 0 []) = some k := hkk.out
        have hdx : (s0 :: ns).drop 1 = ns := rfl
        by_cases hf : (ns.length : Int) = manyW k
        · have hn12 : ns.length ≤ 2 := by have := many_small k hlt; omega
          have hn1 : 1 ≤ ns.length := by have := many_small k hlt; omega
          have hnw := fun (w' : World) (h : Mod NoB w w') => rnumbers_any ns g 1 (cap - 1) w' (fun j s hs => h.cellAt id (hw.out (1 + j) s (by rw [Nat.add_comm]; simpa using hs))) hn12 hlen
          have hlK : lineR (s0 :: ns) st = if numsE ns ≠ 0 then (numsE ns, st) else if st.2 k = true ∧ k ≠ 0 then (12, st) else takeR k (numsV ns ns.length) (st.1, upd st.2 k true) := by
            unfold lineR
            rw [hkx]
            show lineK k _ _ = _
            unfold lineK
            rw [if_neg (by simp; omega), hdx]
            have hnv : numsV ns ns.length = ns.map fun s => (numR s).1 := by unfold numsV; rw [List.take_length]
            rw [hnv]
          have hxl := numsV_len (ns := ns) (i := ns.length) (Nat.le_refl _)
          obtain ⟨xs, hxs⟩ : ∃ xs, numsV ns ns.length = xs := ⟨_, rfl⟩
          unfold NumsOut at hnw
          rw [hxs] at hlK hxl hnw
          obtain ⟨ne, hne2⟩ : ∃ ne, numsE ns = ne := ⟨_, rfl⟩
          rw [hne2] at hlK hnw
          replace hnw := hide hnw
          replace hlK := hide hlK
          replace hxl := hide hxl
          replace hxs := hide hxs
          replace hne2 := hide hne2
          replace hno := hide hno
          replace hm := hide hm
          replace hcl1 := hide hcl1
          replace hks := hide hks
          have hcap1 : (1 : Int) < (cap : Int) := by omega
          have hneq : ¬ cap = 1 := by omega
          clear hkx hdx
          have hl32 : if k = 2 then ((ns.length : Int) + 1 != 3) = false else ((ns.length : Int) + 1 != 2) = false := by
            rcases bounds5 k hlt with rfl | rfl | rfl | rfl | rfl
            all_goals
              have hf' := hf
              simp [manyW] at hf'
              simp
              omega
          replace hf := hide hf
          rcases bounds5 k hlt with rfl | rfl | rfl | rfl | rfl
          · rw [if_neg (by decide)] at hl32
            go_wp2_with fail
            go_quiet (fail)
            go_wp2_with fail
            refine (hnw.out _ (by first | exact hcl1.out.drewN _ | exact hcl1.out.drew)).mono ?_
            rintro e w2 ⟨(⟨h0, rfl⟩ | ⟨h0, x', y', rfl⟩), hm2⟩
            · obtain ⟨x, hx⟩ : ∃ x, xs.getD 0 0 = x := ⟨_, rfl⟩
              obtain ⟨y, hy⟩ : ∃ y, xs.getD 1 0 = y := ⟨_, rfl⟩
              rw [hx, hy]
              replace hx := hide hx
              replace hy := hide hy
              have hwm2 : Mod NoB w w2 := ((hcl1.out.drewN _).trans hm2)
              obtain ⟨W3, hW3⟩ : ∃ W3, w2.alloc (.cells #[.int .i64 x, .int .i64 y] 95) = W3 := ⟨_, rfl⟩
              have hn3 : Hid (W3.heap[w2.heap.size]? = some (.cells #[.int .i64 x, .int .i64 y] 95 (0, 0))) := hide (by rw [← hW3]; exact heap_alloc_new _ _)
              have hm3 : Hid (Mod NoB w W3) := hide (by rw [← hW3]; exact hwm2.alloc _)
              have hW3s : w2.heap.size < W3.heap.size := lt_of_block hn3.out
              have hws : w.heap.size ≤ w2.heap.size := hwm2.size
              have hC3 := hC.out.keep hm3.out
              replace hW3 := hide hW3
              obtain ⟨sv, hcb, hown⟩ := hC3.cfg
              obtain ⟨sp, sn, sc, rfl⟩ := own_slice hown
              obtain ⟨rfl, hints, hge⟩ := own_ints hown
              have hsc : st.1.srv.length ≤ sc := by
                rcases hown.2 with ⟨h1, h2⟩ | ⟨g, cap', cur, hv, _, _, hc, _⟩
                · simp at h1; omega
                · simp at hv; omega
              have hl0 : Hid (lineR (s0 :: ns) st = takeR 0 xs (st.1, upd st.2 0 true)) := hide (by
                rw [hlK.out, if_neg (by rw [h0]; simp), if_neg (by simp)])
              replace hC3 := hide hC3
              replace hcb := hide hcb
              replace hown := hide hown
              replace hints := hide hints
              replace hge := hide hge
              replace h0 := hide h0
              clear hm2 hwm2
              go_wp2_with fail
              rw [hW3.out]
              go_loopw [11] (fun vi wr => ∃ (i : Nat), i ≤ st.1.srv.length ∧ vi = .int .i64 i ∧ x ∉ st.1.srv.take i ∧ Mod NoB W3 wr) (fun vi _ => st.1.srv.length - (intOf vi).toNat)
              case atStart => exact ⟨0, by omega, rfl, by simp, Mod.refl _ _⟩
              case round =>
                obtain ⟨i, hil, rfl, hnin, hmr⟩ := hrel
                have q0 := cell_of_block (hmr.heap hcb.out id) 0 (v := .slice sp st.1.srv.length sc) rfl
                have qn := cell_of_block (hmr.heap hn3.out id) 0 (v := .int .i64 x) rfl
                by_cases hlt2 : i < st.1.srv.length
                · obtain ⟨bq, oq, hp, _, hcell⟩ := hints.out i hlt2
                  replace hcell := hmr.cellAt id hcell
                  have hi0 : (0 : Int) ≤ (i : Int) := by omega
                  have hi1 : (i : Int) < (st.1.srv.length : Int) := by omega
                  subst hp
                  by_cases hv : x = st.1.srv.getD i 0
                  · have hin : inI st.1.srv x = true := by
                      unfold inI
                      rw [List.contains_eq_mem, hv]
                      simp [List.getD, hlt2]
                    have hend : Hid ((lineR (s0 :: ns) st).1 = 12) := hide (by rw [hl0.out]; unfold takeR; rw [if_pos rfl, hx.out, if_pos hin])
                    rw [← hv] at hcell
                    replace hnin := hide hnin
                    replace hmr := hide hmr
                    clear hin hv
                    have hxx : (x == x) = true := by simp
                    go_wp2_with fail
                    go_quiet (fail)
                    go_wp2
                    go_ret
                    exact ⟨⟨int_ret hend.out.symm, fun h => by rw [hend.out] at h; simp at h⟩, ((hm3.out.trans hmr.out).drewN _).mono (fun _ _ f => f.elim)⟩
                  · have hxx : (st.1.srv.getD i 0 == x) = false := beq_eq_false_iff_ne.mpr (fun e => hv e.symm)
                    have hnin' := hide (take_mem hlt2 hnin hv)
                    generalize st.1.srv.getD i 0 = x2 at hcell hxx hv
                    replace hnin := hide hnin
                    replace hmr := hide hmr
                    clear hv
                    go_wp2_with fail
                    go_quiet (fail)
                    go_wp2_with fail
                    go_roundw
                    case rel => exact ⟨i + 1, by omega, by go_num, hnin'.out, hmr.out.drewN _⟩
                    case measure => simp [intOf]; omega
                · obtain rfl : i = st.1.srv.length := by omega
                  rw [List.take_length] at hnin
                  have hin : inI st.1.srv x = false := by
                    unfold inI
                    rw [List.contains_eq_mem]
                    simpa using hnin
                  by_cases hl16 : st.1.srv.length = 16
                  · have hlb : ((st.1.srv.length : Int) == 16) = true := by rw [hl16]; rfl
                    have hend : Hid ((lineR (s0 :: ns) st).1 = 11) := hide (by rw [hl0.out]; unfold takeR; rw [if_pos rfl, hx.out, if_neg (by rw [hin]; simp), if_pos hl16])
                    replace hnin := hide hnin
                    replace hmr := hide hmr
                    replace hin := hide hin
                    replace hl16 := hide hl16
                    go_wp2
                    go_ret
                    exact ⟨⟨int_ret hend.out.symm, fun h => by rw [hend.out] at h; simp at h⟩, (hm3.out.trans hmr.out).mono (fun _ _ f => f.elim)⟩
                  · have hlb : ((st.1.srv.length : Int) == 16) = false := beq_eq_false_iff_ne.mpr (by omega)
                    have hend : Hid (lineR (s0 :: ns) st = (0, ({ st.1 with srv := st.1.srv ++ [x] }, upd st.2 0 true))) := hide (by
                      rw [hl0.out]; unfold takeR; rw [if_pos rfl, hx.out, if_neg (by rw [hin]; simp), if_neg hl16])
                    replace hnin := hide hnin
                    replace hin := hide hin
                    go_wp2_with fail
                    obtain ⟨i0, hi, hz0, hz1, hz2⟩ := info_parts infoInt
                    have hcbr := hmr.heap hcb.out id
                    have hownr := ownsRow_mod hown.out hmr (fun _ h => h.elim)
                    have hfr := frozen_of_block hcbr 0
                    have hCr := hC3.out.keep hmr
                    have hlow := hCr.low
                    have hbwr : base ≤ wr.heap.size := hCr.size
                    have hsn := hide hCr.seen
                    have hbcn := hCr.ne
                    have hmwr : Hid (Mod NoB w wr) := hide (hm3.out.trans hmr)
                    have lN := lt_of_cell qn
                    have lC := lt_of_cell q0
                    have hn3r := hide (hmr.heap hn3.out id)
                    replace hCr := hide hCr
                    replace hownr := hide hownr
                    replace hcbr := hide hcbr
                    replace hmr := hide hmr
                    replace hi := hide hi
                    replace hz0 := hide hz0
                    replace hz1 := hide hz1
                    replace hz2 := hide hz2
                    have hl16h := hide hl16
                    clear hlb hl16
                    go_region_law (
                      (refine step_append_own rfl (.tmp 85) (.tmp 88) 23 rfl base 3 i0 (.int .i64 0) 1 8 Tryd.underlying23 hi.out hz0.out hz1.out hz2.out rfl (by decide) (.slice sp st.1.srv.length sc) st.1.srv.length (st.1.srv.map (.int .i64)) rfl ?zzo ⟨_, 0, none⟩ 1 1 [.int .i64 x] rfl rfl ?zzn ?zzone ?zzm ?zzmb ?zzbase ?_; (case zzo => exact (ownsRow_mod (S := NoB) hownr.out ((Mod.refl _ _).alloc _).drew (fun _ f => f.elim))); (case zzn => exact cell_one_new _ _ _); (case zzone => (intro u hu; simp at hu; subst hu; rfl)); (case zzm => (unfold maxLen; omega)); (case zzmb => omega); (case zzbase => (simp; omega)); intro v' w7 hown' hgrow _; obtain ⟨p', n', c', rfl⟩ := own_slice hown'; have hm7 : Mod (fun x => base ≤ x) wr w7 := Mod.grownIn (((Mod.refl _ _).alloc _).drew) hgrow (own_ge hownr.out); have hb7 := hm7.heap hcbr.out (by omega); have d1 := cell_of_block hb7 0 (v := .slice sp st.1.srv.length sc) rfl; have d2 := frozen_of_block hb7 0; have hs7 := hm7.heap hsn.out (by omega); replace hown' := hide hown'; replace hb7 := hide hb7; replace hm7 := hide hm7; replace hs7 := hide hs7; clear hgrow))
                    all_goals
                      have hset : Mod (· = bc) w7 (w7.setCell ⟨bc, 0, none⟩ (.slice p' n' c')) := (Mod.refl _ _).set1 _ _
                      have hcf : (w7.setCell ⟨bc, 0, none⟩ (.slice p' n' c')).heap[bc]? = some (.cells #[.slice p' n' c', .int .i64 st.1.q, .int .i64 st.1.l, .int .i64 st.1.m, .int .i64 st.1.d, .int .i64 st.1.s] 25 (0, 0)) := by
                        rw [heap_setCell_eq hb7.out]; simp
                      have hsf := hset.heap hs7.out (fun e => hbcn e.symm)
                      have hof : (w7.setCell ⟨bc, 0, none⟩ (.slice p' n' c')).ownsRow base 3 1 (.slice p' n' c') (st.1.srv ++ [x]).length ((st.1.srv ++ [x]).map (.int .i64)) := by
                        have := ownsRow_mod (S := (· = bc)) hown'.out hset (fun b e => by omega)
                        simpa using this
                      have g0 := cell_of_block hsf 0 (v := .bool (st.2 0)) rfl
                      have g1 := frozen_of_block hsf 0
                      obtain ⟨W8, hW8⟩ : ∃ W8, w7.setCell ⟨bc, 0, none⟩ (.slice p' n' c') = W8 := ⟨_, rfl⟩
                      rw [hW8] at hset hcf hsf hof g0 g1
                      have hset2 : Mod (· = bn) W8 (W8.setCell ⟨bn, 0, none⟩ (.bool true)) := (Mod.refl _ _).set1 _ _
                      have hRS : Hid (RS base bc bn ({ st.1 with srv := st.1.srv ++ [x] }, upd st.2 0 true) (W8.setCell ⟨bn, 0, none⟩ (.bool true))) := hide ⟨⟨.slice p' n' c', hset2.heap hcf hbcn, ownsRow_mod hof hset2 (fun b e => by omega)⟩, by rw [heap_setCell_eq hsf]; rfl, hlow, by have := hm7.out.size; have := hset.size; have := hset2.size; omega⟩
                      have hmf : Hid (Mod (fun x => x = bc ∨ x = bn ∨ base ≤ x) w (W8.setCell ⟨bn, 0, none⟩ (.bool true))) := hide ((((hmwr.out.mono (fun _ _ f => f.elim)).trans (hm7.out.mono (fun x _ h => Or.inr (Or.inr h)))).trans (hset.mono (fun x _ h => Or.inl h))).trans (hset2.mono (fun x _ h => Or.inr (Or.inl h))))
                      replace hset := hide hset
                      replace hset2 := hide hset2
                      replace hcf := hide hcf
                      replace hsf := hide hsf
                      replace hof := hide hof
                      rw [hW8]
                      replace hW8 := hide hW8
                      go_wp2
                      go_ret
                      exact ⟨⟨int_ret (congrArg Prod.fst hend.out).symm, fun _ => by rw [hend.out]; exact hRS.out⟩, hmf.out⟩
            · have hnb : (ne != 0) = true := by simpa [bne_iff_ne] using h0
              have hend : Hid (lineR (s0 :: ns) st = (ne, st)) := hide (by rw [hlK.out, if_pos h0])
              have hfr : Hid (Mod NoB w w2) := hide ((hcl1.out.drewN _).trans hm2)
              clear hm2
              go_wp2
              go_ret
              refine ⟨⟨int_ret (congrArg Prod.fst hend.out).symm, fun h => ?_⟩, (hfr.out.alloc _).mono (fun _ _ f => f.elim)⟩
              rw [hend.out] at h
              exact absurd h h0
          · rw [if_neg (by decide)] at hl32
            go_wp2_with fail
            go_quiet (fail)
            go_wp2_with fail
            refine (hnw.out _ (by first | exact hcl1.out.drewN _ | exact hcl1.out.drew)).mono ?_
            rintro e w2 ⟨(⟨h0, rfl⟩ | ⟨h0, x', y', rfl⟩), hm2⟩
            · obtain ⟨x, hx⟩ : ∃ x, xs.getD 0 0 = x := ⟨_, rfl⟩
              obtain ⟨y, hy⟩ : ∃ y, xs.getD 1 0 = y := ⟨_, rfl⟩
              rw [hx, hy]
              have hwm2 : Mod NoB w w2 := ((hcl1.out.drewN _).trans hm2)
              obtain ⟨W3, hW3⟩ : ∃ W3, w2.alloc (.cells #[.int .i64 x, .int .i64 y] 95) = W3 := ⟨_, rfl⟩
              have hn3 : W3.heap[w2.heap.size]? = some (.cells #[.int .i64 x, .int .i64 y] 95 (0, 0)) := by rw [← hW3]; exact heap_alloc_new _ _
              have hm3 : Hid (Mod NoB w W3) := hide (by rw [← hW3]; exact hwm2.alloc _)
              have hws : w.heap.size ≤ w2.heap.size := hwm2.size
              have hbw : base ≤ w.heap.size := hC.out.size
              have hC3 := hC.out.keep hm3.out
              have hlow := hC3.low
              have hbcn := hC3.ne
              replace hW3 := hide hW3
              obtain ⟨sv, hcb, hown⟩ := hC3.cfg
              have hsn3 := hC3.seen
              have g0 := cell_of_block hsn3 1 (v := .bool (st.2 1)) rfl
              have g1 := frozen_of_block hsn3 1
              have hset : Mod (· = bn) W3 (W3.setCell ⟨bn, 1, none⟩ (.bool true)) := (Mod.refl _ _).set1 _ _
              obtain ⟨W4, hW4⟩ : ∃ W4, W3.setCell ⟨bn, 1, none⟩ (.bool true) = W4 := ⟨_, rfl⟩
              have hsn4 : W4.heap[bn]? = some (.cells (seenV (upd st.2 1 true)) 59 (0, 0)) := by rw [← hW4, heap_setCell_eq hsn3]; rfl
              rw [hW4] at hset
              have hcb4 := hset.heap hcb hbcn
              have hn4 := hset.heap hn3 (by omega)
              have c1 := cell_of_block hcb4 1 (v := .int .i64 st.1.q) rfl
              have c2 := cell_of_block hcb4 2 (v := .int .i64 st.1.l) rfl
              have c3 := cell_of_block hcb4 3 (v := .int .i64 st.1.m) rfl
              have c4 := cell_of_block hcb4 4 (v := .int .i64 st.1.d) rfl
              have c5 := cell_of_block hcb4 5 (v := .int .i64 st.1.s) rfl
              have f1 := frozen_of_block hcb4 1
              have f2 := frozen_of_block hcb4 2
              have f3 := frozen_of_block hcb4 3
              have f4 := frozen_of_block hcb4 4
              have f5 := frozen_of_block hcb4 5
              have n0 := cell_of_block hn4 0 (v := .int .i64 x) rfl
              have n1 := cell_of_block hn4 1 (v := .int .i64 y) rfl
              have hnb : ¬ w2.heap.size = bc := by omega
              have hset5 : Mod (· = bc) W4 (W4.setCell ⟨bc, 1, none⟩ (.int .i64 x)) := (Mod.refl _ _).set1 _ _
              have hRS : Hid (RS base bc bn (putF st.1 1 xs, upd st.2 1 true) (W4.setCell ⟨bc, 1, none⟩ (.int .i64 x))) := hide ⟨⟨sv, by rw [heap_setCell_eq hcb4]; rw [← hx]; rfl, ownsRow_mod (ownsRow_mod hown hset (fun b e => by omega)) hset5 (fun b e => by omega)⟩, hset5.heap hsn4 (fun e => hbcn e.symm), hlow, by have := hC3.size; have := hset.size; have := hset5.size; omega⟩
              have hmf : Hid (Mod (fun x => x = bc ∨ x = bn ∨ base ≤ x) w (W4.setCell ⟨bc, 1, none⟩ (.int .i64 x))) := hide (((hm3.out.mono (fun _ _ f => f.elim)).trans (hset.mono (fun x _ h => Or.inr (Or.inl h)))).trans (hset5.mono (fun x _ h => Or.inl h)))
              replace hx := hide hx
              replace hy := hide hy
              replace hn3 := hide hn3
              replace hn4 := hide hn4
              replace hsn3 := hide hsn3
              replace hsn4 := hide hsn4
              replace hcb := hide hcb
              replace hcb4 := hide hcb4
              replace hown := hide hown
              replace hset := hide hset
              replace hset5 := hide hset5
              replace hC3 := hide hC3
              cases hsn : st.2 1
              · have hend : Hid (lineR (s0 :: ns) st = (0, (putF st.1 1 xs, upd st.2 1 true))) := hide (by
                  rw [hlK.out, if_neg (by rw [h0]; simp), if_neg (by rw [hsn]; simp)]; rfl)
                replace h0 := hide h0
                clear hm2 hwm2
                go_upto_region 12 with (fail)
                rw [hW3.out]
                go_wp2
                go_ret
                exact ⟨⟨int_ret (congrArg Prod.fst hend.out).symm, fun _ => by rw [hend.out]; exact hRS.out⟩, hmf.out⟩
              · have hend : Hid ((lineR (s0 :: ns) st).1 = 12) := hide (by rw [hlK.out, if_neg (by rw [h0]; simp), if_pos ⟨hsn, by decide⟩])
                replace h0 := hide h0
                clear hm2 hwm2
                go_upto_region 12 with (fail)
                rw [hW3.out]
                go_wp2
                go_ret
                exact ⟨⟨int_ret hend.out.symm, fun h => by rw [hend.out] at h; simp at h⟩, hm3.out.mono (fun _ _ f => f.elim)⟩
            · have hnb : (ne != 0) = true := by simpa [bne_iff_ne] using h0
              have hend : Hid (lineR (s0 :: ns) st = (ne, st)) := hide (by rw [hlK.out, if_pos h0])
              have hfr : Hid (Mod NoB w w2) := hide ((hcl1.out.drewN _).trans hm2)
              clear hm2
              go_wp2
              go_ret
              refine ⟨⟨int_ret (congrArg Prod.fst hend.out).symm, fun h => ?_⟩, (hfr.out.alloc _).mono (fun _ _ f => f.elim)⟩
              rw [hend.out] at h
              exact absurd h h0
          · rw [if_pos rfl] at hl32
            go_wp2_with fail
            go_quiet (fail)
            go_wp2_with fail
            refine (hnw.out _ (by first | exact hcl1.out.drewN _ | exact hcl1.out.drew)).mono ?_
            rintro e w2 ⟨(⟨h0, rfl⟩ | ⟨h0, x', y', rfl⟩), hm2⟩
            · obtain ⟨x, hx⟩ : ∃ x, xs.getD 0 0 = x := ⟨_, rfl⟩
              obtain ⟨y, hy⟩ : ∃ y, xs.getD 1 0 = y := ⟨_, rfl⟩
              rw [hx, hy]
              have hwm2 : Mod NoB w w2 := ((hcl1.out.drewN _).trans hm2)
              obtain ⟨W3, hW3⟩ : ∃ W3, w2.alloc (.cells #[.int .i64 x, .int .i64 y] 95) = W3 := ⟨_, rfl⟩
              have hn3 : W3.heap[w2.heap.size]? = some (.cells #[.int .i64 x, .int .i64 y] 95 (0, 0)) := by rw [← hW3]; exact heap_alloc_new _ _
              have hm3 : Hid (Mod NoB w W3) := hide (by rw [← hW3]; exact hwm2.alloc _)
              have hws : w.heap.size ≤ w2.heap.size := hwm2.size
              have hbw : base ≤ w.heap.size := hC.out.size
              have hC3 := hC.out.keep hm3.out
              have hlow := hC3.low
              have hbcn := hC3.ne
              replace hW3 := hide hW3
              obtain ⟨sv, hcb, hown⟩ := hC3.cfg
              have hsn3 := hC3.seen
              have g0 := cell_of_block hsn3 2 (v := .bool (st.2 2)) rfl
              have g1 := frozen_of_block hsn3 2
              have hset : Mod (· = bn) W3 (W3.setCell ⟨bn, 2, none⟩ (.bool true)) := (Mod.refl _ _).set1 _ _
              obtain ⟨W4, hW4⟩ : ∃ W4, W3.setCell ⟨bn, 2, none⟩ (.bool true) = W4 := ⟨_, rfl⟩
              have hsn4 : W4.heap[bn]? = some (.cells (seenV (upd st.2 2 true)) 59 (0, 0)) := by rw [← hW4, heap_setCell_eq hsn3]; rfl
              rw [hW4] at hset
              have hcb4 := hset.heap hcb hbcn
              have hn4 := hset.heap hn3 (by omega)
              have c1 := cell_of_block hcb4 1 (v := .int .i64 st.1.q) rfl
              have c2 := cell_of_block hcb4 2 (v := .int .i64 st.1.l) rfl
              have c3 := cell_of_block hcb4 3 (v := .int .i64 st.1.m) rfl
              have c4 := cell_of_block hcb4 4 (v := .int .i64 st.1.d) rfl
              have c5 := cell_of_block hcb4 5 (v := .int .i64 st.1.s) rfl
              have f1 := frozen_of_block hcb4 1
              have f2 := frozen_of_block hcb4 2
              have f3 := frozen_of_block hcb4 3
              have f4 := frozen_of_block hcb4 4
              have f5 := frozen_of_block hcb4 5
              have n0 := cell_of_block hn4 0 (v := .int .i64 x) rfl
              have n1 := cell_of_block hn4 1 (v := .int .i64 y) rfl
              have hnb : ¬ w2.heap.size = bc := by omega
              have hset5 : Mod (· = bc) W4 ((W4.setCell ⟨bc, 2, none⟩ (.int .i64 x)).setCell ⟨bc, 3, none⟩ (.int .i64 y)) := ((Mod.refl _ _).set1 _ _).set1 _ _
              have hRS : Hid (RS base bc bn (putF st.1 2 xs, upd st.2 2 true) ((W4.setCell ⟨bc, 2, none⟩ (.int .i64 x)).setCell ⟨bc, 3, none⟩ (.int .i64 y))) := hide ⟨⟨sv, by rw [heap_setCell_eq (heap_setCell_eq hcb4 _)]; rw [← hx, ← hy]; rfl, ownsRow_mod (ownsRow_mod hown hset (fun b e => by omega)) hset5 (fun b e => by omega)⟩, hset5.heap hsn4 (fun e => hbcn e.symm), hlow, by have := hC3.size; have := hset.size; have := hset5.size; omega⟩
              have hmf : Hid (Mod (fun x => x = bc ∨ x = bn ∨ base ≤ x) w ((W4.setCell ⟨bc, 2, none⟩ (.int .i64 x)).setCell ⟨bc, 3, none⟩ (.int .i64 y))) := hide (((hm3.out.mono (fun _ _ f => f.elim)).trans (hset.mono (fun x _ h => Or.inr (Or.inl h)))).trans (hset5.mono (fun x _ h => Or.inl h)))
              replace hx := hide hx
              replace hy := hide hy
              replace hn3 := hide hn3
              replace hn4 := hide hn4
              replace hsn3 := hide hsn3
              replace hsn4 := hide hsn4
              replace hcb := hide hcb
              replace hcb4 := hide hcb4
              replace hown := hide hown
              replace hset := hide hset
              replace hset5 := hide hset5
              replace hC3 := hide hC3
              cases hsn : st.2 2
              · have hend : Hid (lineR (s0 :: ns) st = (0, (putF st.1 2 xs, upd st.2 2 true))) := hide (by
                  rw [hlK.out, if_neg (by rw [h0]; simp), if_neg (by rw [hsn]; simp)]; rfl)
                replace h0 := hide h0
                clear hm2 hwm2
                go_upto_region 12 with (fail)
                rw [hW3.out]
                go_wp2
                go_ret
                exact ⟨⟨int_ret (congrArg Prod.fst hend.out).symm, fun _ => by rw [hend.out]; exact hRS.out⟩, hmf.out⟩
              · have hend : Hid ((lineR (s0 :: ns) st).1 = 12) := hide (by rw [hlK.out, if_neg (by rw [h0]; simp), if_pos ⟨hsn, by decide⟩])
                replace h0 := hide h0
                clear hm2 hwm2
                go_upto_region 12 with (fail)
                rw [hW3.out]
                go_wp2
                go_ret
                exact ⟨⟨int_ret hend.out.symm, fun h => by rw [hend.out] at h; simp at h⟩, hm3.out.mono (fun _ _ f => f.elim)⟩
            · have hnb : (ne != 0) = true := by simpa [bne_iff_ne] using h0
              have hend : Hid (lineR (s0 :: ns) st = (ne, st)) := hide (by rw [hlK.out, if_pos h0])
              have hfr : Hid (Mod NoB w w2) := hide ((hcl1.out.drewN _).trans hm2)
              clear hm2
              go_wp2
              go_ret
              refine ⟨⟨int_ret (congrArg Prod.fst hend.out).symm, fun h => ?_⟩, (hfr.out.alloc _).mono (fun _ _ f => f.elim)⟩
              rw [hend.out] at h
              exact absurd h h0
          · rw [if_neg (by decide)] at hl32
            go_wp2_with fail
            go_quiet (fail)
            go_wp2_with fail
            refine (hnw.out _ (by first | exact hcl1.out.drewN _ | exact hcl1.out.drew)).mono ?_
            rintro e w2 ⟨(⟨h0, rfl⟩ | ⟨h0, x', y', rfl⟩), hm2⟩
            · obtain ⟨x, hx⟩ : ∃ x, xs.getD 0 0 = x := ⟨_, rfl⟩
              obtain ⟨y, hy⟩ : ∃ y, xs.getD 1 0 = y := ⟨_, rfl⟩
              rw [hx, hy]
              have hwm2 : Mod NoB w w2 := ((hcl1.out.drewN _).trans hm2)
              obtain ⟨W3, hW3⟩ : ∃ W3, w2.alloc (.cells #[.int .i64 x, .int .i64 y] 95) = W3 := ⟨_, rfl⟩
              have hn3 : W3.heap[w2.heap.size]? = some (.cells #[.int .i64 x, .int .i64 y] 95 (0, 0)) := by rw [← hW3]; exact heap_alloc_new _ _
              have hm3 : Hid (Mod NoB w W3) := hide (by rw [← hW3]; exact hwm2.alloc _)
              have hws : w.heap.size ≤ w2.heap.size := hwm2.size
              have hbw : base ≤ w.heap.size := hC.out.size
              have hC3 := hC.out.keep hm3.out
              have hlow := hC3.low
              have hbcn := hC3.ne
              replace hW3 := hide hW3
              obtain ⟨sv, hcb, hown⟩ := hC3.cfg
              have hsn3 := hC3.seen
              have g0 := cell_of_block hsn3 3 (v := .bool (st.2 3)) rfl
              have g1 := frozen_of_block hsn3 3
              have hset : Mod (· = bn) W3 (W3.setCell ⟨bn, 3, none⟩ (.bool true)) := (Mod.refl _ _).set1 _ _
              obtain ⟨W4, hW4⟩ : ∃ W4, W3.setCell ⟨bn, 3, none⟩ (.bool true) = W4 := ⟨_, rfl⟩
              have hsn4 : W4.heap[bn]? = some (.cells (seenV (upd st.2 3 true)) 59 (0, 0)) := by rw [← hW4, heap_setCell_eq hsn3]; rfl
              rw [hW4] at hset
              have hcb4 := hset.heap hcb hbcn
              have hn4 := hset.heap hn3 (by omega)
              have c1 := cell_of_block hcb4 1 (v := .int .i64 st.1.q) rfl
              have c2 := cell_of_block hcb4 2 (v := .int .i64 st.1.l) rfl
              have c3 := cell_of_block hcb4 3 (v := .int .i64 st.1.m) rfl
              have c4 := cell_of_block hcb4 4 (v := .int .i64 st.1.d) rfl
              have c5 := cell_of_block hcb4 5 (v := .int .i64 st.1.s) rfl
              have f1 := frozen_of_block hcb4 1
              have f2 := frozen_of_block hcb4 2
              have f3 := frozen_of_block hcb4 3
              have f4 := frozen_of_block hcb4 4
              have f5 := frozen_of_block hcb4 5
              have n0 := cell_of_block hn4 0 (v := .int .i64 x) rfl
              have n1 := cell_of_block hn4 1 (v := .int .i64 y) rfl
              have hnb : ¬ w2.heap.size = bc := by omega
              have hset5 : Mod (· = bc) W4 (W4.setCell ⟨bc, 4, none⟩ (.int .i64 x)) := (Mod.refl _ _).set1 _ _
              have hRS : Hid (RS base bc bn (putF st.1 3 xs, upd st.2 3 true) (W4.setCell ⟨bc, 4, none⟩ (.int .i64 x))) := hide ⟨⟨sv, by rw [heap_setCell_eq hcb4]; rw [← hx]; rfl, ownsRow_mod (ownsRow_mod hown hset (fun b e => by omega)) hset5 (fun b e => by omega)⟩, hset5.heap hsn4 (fun e => hbcn e.symm), hlow, by have := hC3.size; have := hset.size; have := hset5.size; omega⟩
              have hmf : Hid (Mod (fun x => x = bc ∨ x = bn ∨ base ≤ x) w (W4.setCell ⟨bc, 4, none⟩ (.int .i64 x))) := hide (((hm3.out.mono (fun _ _ f => f.elim)).trans (hset.mono (fun x _ h => Or.inr (Or.inl h)))).trans (hset5.mono (fun x _ h => Or.inl h)))
              replace hx := hide hx
              replace hy := hide hy
              replace hn3 := hide hn3
              replace hn4 := hide hn4
              replace hsn3 := hide hsn3
              replace hsn4 := hide hsn4
              replace hcb := hide hcb
              replace hcb4 := hide hcb4
              replace hown := hide hown
              replace hset := hide hset
              replace hset5 := hide hset5
              replace hC3 := hide hC3
              cases hsn : st.2 3
              · have hend : Hid (lineR (s0 :: ns) st = (0, (putF st.1 3 xs, upd st.2 3 true))) := hide (by
                  rw [hlK.out, if_neg (by rw [h0]; simp), if_neg (by rw [hsn]; simp)]; rfl)
                replace h0 := hide h0
                clear hm2 hwm2
                go_upto_region 12 with (fail)
                rw [hW3.out]
                go_wp2
                go_ret
                exact ⟨⟨int_ret (congrArg Prod.fst hend.out).symm, fun _ => by rw [hend.out]; exact hRS.out⟩, hmf.out⟩
              · have hend : Hid ((lineR (s0 :: ns) st).1 = 12) := hide (by rw [hlK.out, if_neg (by rw [h0]; simp), if_pos ⟨hsn, by decide⟩])
                replace h0 := hide h0
                clear hm2 hwm2
                go_upto_region 12 with (fail)
                rw [hW3.out]
                go_wp2
                go_ret
                exact ⟨⟨int_ret hend.out.symm, fun h => by rw [hend.out] at h; simp at h⟩, hm3.out.mono (fun _ _ f => f.elim)⟩
            · have hnb : (ne != 0) = true := by simpa [bne_iff_ne] using h0
              have hend : Hid (lineR (s0 :: ns) st = (ne, st)) := hide (by rw [hlK.out, if_pos h0])
              have hfr : Hid (Mod NoB w w2) := hide ((hcl1.out.drewN _).trans hm2)
              clear hm2
              go_wp2
              go_ret
              refine ⟨⟨int_ret (congrArg Prod.fst hend.out).symm, fun h => ?_⟩, (hfr.out.alloc _).mono (fun _ _ f => f.elim)⟩
              rw [hend.out] at h
              exact absurd h h0
          · rw [if_neg (by decide)] at hl32
            go_wp2_with fail
            go_quiet (fail)
            go_wp2_with fail
            refine (hnw.out _ (by first | exact hcl1.out.drewN _ | exact hcl1.out.drew)).mono ?_
            rintro e w2 ⟨(⟨h0, rfl⟩ | ⟨h0, x', y', rfl⟩), hm2⟩
            · obtain ⟨x, hx⟩ : ∃ x, xs.getD 0 0 = x := ⟨_, rfl⟩
              obtain ⟨y, hy⟩ : ∃ y, xs.getD 1 0 = y := ⟨_, rfl⟩
              rw [hx, hy]
              have hwm2 : Mod NoB w w2 := ((hcl1.out.drewN _).trans hm2)
              obtain ⟨W3, hW3⟩ : ∃ W3, w2.alloc (.cells #[.int .i64 x, .int .i64 y] 95) = W3 := ⟨_, rfl⟩
              have hn3 : W3.heap[w2.heap.size]? = some (.cells #[.int .i64 x, .int .i64 y] 95 (0, 0)) := by rw [← hW3]; exact heap_alloc_new _ _
              have hm3 : Hid (Mod NoB w W3) := hide (by rw [← hW3]; exact hwm2.alloc _)
              have hws : w.heap.size ≤ w2.heap.size := hwm2.size
              have hbw : base ≤ w.heap.size := hC.out.size
              have hC3 := hC.out.keep hm3.out
              have hlow := hC3.low
              have hbcn := hC3.ne
              replace hW3 := hide hW3
              obtain ⟨sv, hcb, hown⟩ := hC3.cfg
              have hsn3 := hC3.seen
              have g0 := cell_of_block hsn3 4 (v := .bool (st.2 4)) rfl
              have g1 := frozen_of_block hsn3 4
              have hset : Mod (· = bn) W3 (W3.setCell ⟨bn, 4, none⟩ (.bool true)) := (Mod.refl _ _).set1 _ _
              obtain ⟨W4, hW4⟩ : ∃ W4, W3.setCell ⟨bn, 4, none⟩ (.bool true) = W4 := ⟨_, rfl⟩
              have hsn4 : W4.heap[bn]? = some (.cells (seenV (upd st.2 4 true)) 59 (0, 0)) := by rw [← hW4, heap_setCell_eq hsn3]; rfl
              rw [hW4] at hset
              have hcb4 := hset.heap hcb hbcn
              have hn4 := hset.heap hn3 (by omega)
              have c1 := cell_of_block hcb4 1 (v := .int .i64 st.1.q) rfl
              have c2 := cell_of_block hcb4 2 (v := .int .i64 st.1.l) rfl
              have c3 := cell_of_block hcb4 3 (v := .int .i64 st.1.m) rfl
              have c4 := cell_of_block hcb4 4 (v := .int .i64 st.1.d) rfl
              have c5 := cell_of_block hcb4 5 (v := .int .i64 st.1.s) rfl
              have f1 := frozen_of_block hcb4 1
              have f2 := frozen_of_block hcb4 2
              have f3 := frozen_of_block hcb4 3
              have f4 := frozen_of_block hcb4 4
              have f5 := frozen_of_block hcb4 5
              have n0 := cell_of_block hn4 0 (v := .int .i64 x) rfl
              have n1 := cell_of_block hn4 1 (v := .int .i64 y) rfl
              have hnb : ¬ w2.heap.size = bc := by omega
              have hset5 : Mod (· = bc) W4 (W4.setCell ⟨bc, 5, none⟩ (.int .i64 x)) := (Mod.refl _ _).set1 _ _
              have hRS : Hid (RS base bc bn (putF st.1 4 xs, upd st.2 4 true) (W4.setCell ⟨bc, 5, none⟩ (.int .i64 x))) := hide ⟨⟨sv, by rw [heap_setCell_eq hcb4]; rw [← hx]; rfl, ownsRow_mod (ownsRow_mod hown hset (fun b e => by omega)) hset5 (fun b e => by omega)⟩, hset5.heap hsn4 (fun e => hbcn e.symm), hlow, by have := hC3.size; have := hset.size; have := hset5.size; omega⟩
              have hmf : Hid (Mod (fun x => x = bc ∨ x = bn ∨ base ≤ x) w (W4.setCell ⟨bc, 5, none⟩ (.int .i64 x))) := hide (((hm3.out.mono (fun _ _ f => f.elim)).trans (hset.mono (fun x _ h => Or.inr (Or.inl h)))).trans (hset5.mono (fun x _ h => Or.inl h)))
              replace hx := hide hx
              replace hy := hide hy
              replace hn3 := hide hn3
              replace hn4 := hide hn4
              replace hsn3 := hide hsn3
              replace hsn4 := hide hsn4
              replace hcb := hide hcb
              replace hcb4 := hide hcb4
              replace hown := hide hown
              replace hset := hide hset
              replace hset5 := hide hset5
              replace hC3 := hide hC3
              cases hsn : st.2 4
              · have hend : Hid (lineR (s0 :: ns) st = (0, (putF st.1 4 xs, upd st.2 4 true))) := hide (by
                  rw [hlK.out, if_neg (by rw [h0]; simp), if_neg (by rw [hsn]; simp)]; rfl)
                replace h0 := hide h0
                clear hm2 hwm2
                go_upto_region 12 with (fail)
                rw [hW3.out]
                go_wp2
                go_ret
                exact ⟨⟨int_ret (congrArg Prod.fst hend.out).symm, fun _ => by rw [hend.out]; exact hRS.out⟩, hmf.out⟩
              · have hend : Hid ((lineR (s0 :: ns) st).1 = 12) := hide (by rw [hlK.out, if_neg (by rw [h0]; simp), if_pos ⟨hsn, by decide⟩])
                replace h0 := hide h0
                clear hm2 hwm2
                go_upto_region 12 with (fail)
                rw [hW3.out]
                go_wp2
                go_ret
                exact ⟨⟨int_ret hend.out.symm, fun h => by rw [hend.out] at h; simp at h⟩, hm3.out.mono (fun _ _ f => f.elim)⟩
            · have hnb : (ne != 0) = true := by simpa [bne_iff_ne] using h0
              have hend : Hid (lineR (s0 :: ns) st = (ne, st)) := hide (by rw [hlK.out, if_pos h0])
              have hfr : Hid (Mod NoB w w2) := hide ((hcl1.out.drewN _).trans hm2)
              clear hm2
              go_wp2
              go_ret
              refine ⟨⟨int_ret (congrArg Prod.fst hend.out).symm, fun h => ?_⟩, (hfr.out.alloc _).mono (fun _ _ f => f.elim)⟩
              rw [hend.out] at h
              exact absurd h h0
        · have hend : Hid (lineR (s0 :: ns) st = (6, st)) := hide (by
            unfold lineR
            rw [hkx]
            show lineK k _ _ = _
            unfold lineK
            rw [if_pos (by simp; omega)])
          replace hno := hide hno
          replace hm := hide hm
          replace hcl1 := hide hcl1
          clear hkx hdx
          by_cases h2 : k = 2
          · subst h2
            have hl3 : ((ns.length : Int) + 1 != 3) = true := by rw [bne_iff_ne]; intro e; exact hf (by show _ = (2 : Int); omega)
            replace hks := hide hks
            clear hf
            go_wp2_with fail
            go_quiet (fail)
            go_wp2
            go_ret
            exact ⟨⟨int_ret (congrArg Prod.fst hend.out).symm, fun h => by rw [hend.out] at h; simp at h⟩, (hcl1.out.drewN _).mono (fun _ _ f => f.elim)⟩
          · have hkb : ((k : Int) == 2) = false := beq_eq_false_iff_ne.mpr (by omega)
            have hkc : ((k : Int) != 2) = true := by rw [bne_iff_ne]; omega
            have hmk : manyW k = 1 := by
              rcases bounds5 k hlt with rfl | rfl | rfl | rfl | rfl
              all_goals first | rfl | omega
            have hl3 : ((ns.length : Int) + 1 != 2) = true := by rw [bne_iff_ne]; intro e; exact hf (by rw [hmk]; omega)
            replace hks := hide hks
            clear hf hmk
            go_wp2_with fail
            go_quiet (fail)
            go_wp2
            go_ret
            exact ⟨⟨int_ret (congrArg Prod.fst hend.out).symm, fun h => by rw [hend.out] at h; simp at h⟩, (hcl1.out.drewN _).mono (fun _ _ f => f.elim)⟩
      · have hne : (keyW k == s0) = false := by simpa using hks
        have hno' : Hid (∀ j, j < k + 1 → keyW j ≠ s0) := hide (fun j hj => by
          by_cases h : j < k
          · exact hno j h
          · obtain rfl : j = k := by omega
            exact hks)
        replace hno := hide hno
        replace hm := hide hm
        replace hks := hide hks
        go_wp2_with fail
        go_quiet (fail)
        go_wp2_with fail
        go_roundw
        case rel => exact ⟨k + 1, by omega, by go_num, hno'.out, by first | exact hm.out.drewN _ | exact hm.out.drew⟩
        case measure => simp [intOf]; omega
    · obtain rfl : k = 5 := by omega
      have hend : Hid (lineR (s0 :: ns) st = (10, st)) := hide (by
        have hkx : keyOf ((s0 :: ns).getD 0 []) = none := keyOf_no hno
        unfold lineR
        rw [hkx])
      have hcl1 : Hid (Mod NoB w wr) := hide (hm1.out.trans hm)
      replace hno := hide hno
      replace hm := hide hm
      go_wp2_with fail
      go_quiet (fail)
      go_wp2
      go_ret
      exact ⟨⟨int_ret (congrArg Prod.fst hend.out).symm, fun h => by rw [hend.out] at h; simp at h⟩, (hcl1.out.drewN _).mono (fun _ _ f => f.elim)⟩
end Go.Proofs.YtdcmjjinmnbaoaaDoor
namespace Go.Proofs.YtdcmjjinmnbaoaaDoor
open Go.RowKit

theorem RS.out_mod {base bc bn b : Nat} (h : b < bc) (hbn : b < bn) (hb : b < base) : ¬ (b = bc ∨ b = bn ∨ base ≤ b) := by omega
theorem seenV_at (s : Nat → Bool) : ∀ k, k < 5 → (seenV s)[k]? = some (.bool (s k)) := by
  intro k hk
  rcases bounds5 k hk with rfl | rfl | rfl | rfl | rfl <;> rfl

set_option maxRecDepth 100000 in
set_option maxHeartbeats 16000000 in
theorem rparse_any (l : List UInt8) (hl : l.length ≤ 65536) (w : World) :
    Calls Tryd.prog 11 #[.string (bs l)] w fun e w' => ParseOut (parseR l) w e w' ∧ Mod NoB w w' := by
  have hlw := fun w' => rlines_any l w' hl
  replace hlw := hide hlw
  obtain ⟨r, hr⟩ : ∃ r, parseR l = r := ⟨_, rfl⟩
  rw [hr]
  replace hr := hide hr
  go_enter Tryd.func11, Tryd.ntmps11
  go_wp2_with fail
  refine (hlw.out _).mono ?_
  rintro e w1 ⟨(⟨j, h1, h2, h3, rfl⟩ | ⟨hok, v, rfl, hv⟩), hm⟩
  · have hm1 : Hid (Mod NoB w w1) := hide (((Mod.refl _ _).alloc _).trans hm)
    have hb : w1.heap[w.heap.size]? = some (.cells #[.slice none 0 0, .int .i64 0, .int .i64 0, .int .i64 0, .int .i64 0, .int .i64 0] 25 (0, 0)) := hm.heap (heap_alloc_new _ _) id
    have hr2 : Hid (r = (cfg0, ((j + 1 : Nat) : Int), 6)) := hide (hr.out.symm.trans (parseR_bad (by omega) (badAt_some h1 h2 h3)))
    clear hm h1 h2 h3
    obtain ⟨b0, b1, b2, b3, b4, b5, f0, f1, f2, f3, f4, f5⟩ := six_of hb
    obtain ⟨W6, hW6, hb6, hm6⟩ := set6 hb (.slice none 0 0) (.int .i64 0) (.int .i64 0) (.int .i64 0) (.int .i64 0) (.int .i64 0)
    replace hW6 := hide hW6
    replace hb6 := hide hb6
    replace hb := hide hb
    have hmf : Hid (Mod NoB w W6) := hide (hm1.out.into hm6 (fun b e => Or.inr (by omega)))
    clear hm6
    go_wp2
    rw [hW6.out]
    clear b0 b1 b2 b3 b4 b5 f0 f1 f2 f3 f4 f5
    obtain ⟨b0, b1, b2, b3, b4, b5, -⟩ := six_of hb6.out
    rw [hr2.out]
    refine bodyPost_ret (v := .tuple #[.agg #[.slice none 0 0, .int .i64 0, .int .i64 0, .int .i64 0, .int .i64 0, .int .i64 0], .int .i64 ((j + 1 : Nat) : Int), .int .i64 6]) (by simp [results, Tryd.results11, go_sem, b0, b1, b2, b3, b4, b5]) rfl ⟨.err, hmf.out⟩
  · have hm1 : Hid (Mod NoB w w1) := hide (((Mod.refl _ _).alloc _).trans hm)
    have hb : Hid (w1.heap[w.heap.size]? = some (.cells #[.slice none 0 0, .int .i64 0, .int .i64 0, .int .i64 0, .int .i64 0, .int .i64 0] 25 (0, 0))) := hide (hm.heap (heap_alloc_new _ _) id)
    have hr2 := hide (hr.out.symm.trans (parseR_lines (by omega) (badAt_none hok)))
    obtain ⟨L, hLn⟩ : ∃ L, linesTo l (partsN 10 l) = L := ⟨_, rfl⟩
    have hLe := hide (linesTo_each l (partsN 10 l))
    have hLlen := linesTo_len l (partsN 10 l)
    rw [hLn] at hv hr2 hLe hLlen
    have hpN : partsN 10 l ≤ 65537 := by have := List.count_le_length (a := (10 : UInt8)) (l := l); simp only [partsN]; omega
    have hLl : L.length ≤ 65537 := by omega
    clear hLlen hpN hLn hm hok
    obtain ⟨p, cap, rfl, hcells⟩ := hv.open
    replace hcells := hide hcells
    clear hv
    go_wp2_with fail
    obtain ⟨w3, hw3⟩ : ∃ w3, (w1.alloc (.cells #[.slice none 0 0, .int .i64 0, .int .i64 0, .int .i64 0, .int .i64 0, .int .i64 0] 25)).alloc (.cells #[.bool false, .bool false, .bool false, .bool false, .bool false] 59) = w3 := ⟨_, rfl⟩
    have hm13 : Hid (Mod NoB w1 w3) := hide (by rw [← hw3]; exact ((Mod.refl _ _).alloc _).alloc _)
    have hsz3 : w3.heap.size = w1.heap.size + 2 := by rw [← hw3]; simp
    have hcf : w3.heap[w1.heap.size]? = some (.cells #[.slice none 0 0, .int .i64 0, .int .i64 0, .int .i64 0, .int .i64 0, .int .i64 0] 25 (0, 0)) := by rw [← hw3]; exact (heap_alloc_old (by simp) _).trans (heap_alloc_new _ _)
    have hcs : w3.heap[w1.heap.size + 1]? = some (.cells #[.bool false, .bool false, .bool false, .bool false, .bool false] 59 (0, 0)) := by
      rw [← hw3]
      have := heap_alloc_new (w1.alloc (.cells #[.slice none 0 0, .int .i64 0, .int .i64 0, .int .i64 0, .int .i64 0, .int .i64 0] 25)) (.cells #[.bool false, .bool false, .bool false, .bool false, .bool false] 59)
      rwa [World.size_alloc] at this
    have hRS : Hid (RS (w1.heap.size + 2) w1.heap.size (w1.heap.size + 1) st0 w3) := hide ⟨⟨_, hcf, World.ownsRow_nil _ _ _ _⟩, hcs, ⟨by omega, by omega⟩, by omega⟩
    rw [hw3]
    clear hw3 hcf hcs hsz3
    obtain ⟨bc, hbc⟩ : ∃ bc, w1.heap.size = bc := ⟨_, rfl⟩
    rw [hbc] at hRS ⊢
    replace hbc := hide hbc
    go_loopw [10] (fun vi wr => ∃ (i : Nat) (st : St), i ≤ L.length ∧ vi = .int .i64 i ∧ RS (bc + 2) bc (bc + 1) st wr ∧ linesR L st0 = linesR (L.drop i) st ∧ st.1.srv.length ≤ 16 ∧ Mod (bc ≤ ·) w3 wr) (fun vi _ => L.length - (intOf vi).toNat)
    case atStart => exact ⟨0, st0, by omega, rfl, hRS.out, by simp, by simp [st0, cfg0], Mod.refl _ _⟩
    case round =>
      obtain ⟨i, st, hil, rfl, hC, hlin, h16, hm⟩ := hrel
      have hwb : w.heap.size < bc := by rw [← hbc.out]; exact lt_of_block hb.out
      have hmw2 : Hid (Mod NoB w wr) := hide ((hm1.out.trans hm13.out).into hm (fun b' h => Or.inr (by omega)))
      have hbr : Hid (wr.heap[w.heap.size]? = some (.cells #[.slice none 0 0, .int .i64 0, .int .i64 0, .int .i64 0, .int .i64 0, .int .i64 0] 25 (0, 0))) := hide (hm.heap (hm13.out.heap hb.out id) (by omega))
      by_cases hlt : i < L.length
      · obtain ⟨⟨n, ws⟩, hx⟩ : ∃ x, L[i]? = some x := ⟨L[i], by simp [hlt]⟩
        obtain ⟨g, u, c, rfl, hx1, hx2, hx3⟩ := hcells.out i _ hx
        obtain ⟨q1, q2, q3, q4⟩ := hLe.out _ (List.mem_of_getElem? hx)
        have hdrop : L.drop i = (n, ws) :: L.drop (i + 1) := by
          rw [← List.getElem_cons_drop hlt]
          congr 1
          have := List.getElem?_eq_getElem hlt
          rw [hx] at this
          exact (Option.some.inj this).symm
        change 0 < ws.length at q2
        change ws.length ≤ l.length at q3
        obtain ⟨gw, cw, e1, -, hcw, hxw⟩ := hx3.open q2
        cases e1
        obtain ⟨cw, rfl⟩ : ∃ cw, cw = c := ⟨_, rfl⟩
        have hg : g < bc := by rw [← hbc.out]; exact lt_of_cell hx1
        have hgw : gw < bc := by rw [← hbc.out]; obtain ⟨s, hs⟩ : ∃ s, ws[0]? = some s := ⟨ws[0], by simp [q2]⟩; exact lt_of_cell (hxw 0 s hs)
        have hcm := hx3.cap
        have y1 : wr.cell? ⟨g, i * 2, none⟩ = some (.int .i64 n) := hm.cellAt (by omega) (hm13.out.cellAt id hx1)
        have y2 : wr.cell? ⟨g, i * 2 + 1, none⟩ = some (.slice (some ⟨gw, 0, none⟩) ws.length cw) := hm.cellAt (by omega) (hm13.out.cellAt id hx2)
        have hwa : WordsAt gw ws wr := fun j s hs => hm.cellAt (by omega) (hm13.out.cellAt id (hxw j s hs))
        obtain ⟨s0, ns, rfl⟩ : ∃ s0 ns, ws = s0 :: ns := by
          cases ws with
          | nil => simp at q2
          | cons s0 ns => exact ⟨s0, ns, rfl⟩
        have hline := rline_any (bc + 2) bc (bc + 1) st s0 ns gw cw wr hC hwa (by simpa using hcw) hcm (by simp at q3; omega) (fun s hs => by have := q4 s (by simp [hs]); omega) (by omega)
        obtain ⟨er, her⟩ : ∃ er, (lineR (s0 :: ns) st).1 = er := ⟨_, rfl⟩
        unfold RLineOut at hline
        rw [her] at hline
        rw [List.length_cons] at y2
        have hi0 : (0 : Int) ≤ (i : Int) := by omega
        have hi1 : (i : Int) < (L.length : Int) := by omega
        replace hline := hide hline
        replace her := hide her
        replace hC := hide hC
        replace hlin := hide hlin
        replace h16 := hide h16
        replace hm := hide hm
        replace hx1 := hide hx1
        replace hx2 := hide hx2
        replace hx3 := hide hx3
        replace hx := hide hx
        replace hdrop := hide hdrop
        replace hcw := hide hcw
        replace hxw := hide hxw
        replace hwa := hide hwa
        replace q4 := hide q4
        go_wp2_with fail
        refine hline.out.mono ?_
        rintro e w4 ⟨⟨rfl, hok⟩, hm4⟩
        have hm4b : Mod (bc ≤ ·) wr w4 := hm4.mono (fun x _ h => by show bc ≤ x; omega)
        by_cases he : er = 0
        · subst he
          have hC4 := hok rfl
          have hm4' := hm.out.trans hm4b
          have h16' := line_srv her.out h16.out
          have hlin' : linesR L st0 = linesR (L.drop (i + 1)) (lineR (s0 :: ns) st).2 := by rw [hlin.out, hdrop.out, linesR_ok her.out]
          replace hC4 := hide hC4
          replace hm4' := hide hm4'
          replace hlin' := hide hlin'
          replace h16' := hide h16'
          clear hok hm4 hm4b
          go_wp2_with fail
          go_roundw
          case rel => exact ⟨i + 1, (lineR (s0 :: ns) st).2, by omega, by go_num, hC4.out, hlin'.out, h16'.out, hm4'.out⟩
          case measure => simp [intOf]; omega
        · have heb : (er != 0) = true := by simpa [bne_iff_ne] using he
          have x0 : w4.cell? ⟨g, i * 2, none⟩ = some (.int .i64 n) := hm4b.cellAt (by omega) y1
          have hb4 : w4.heap[w.heap.size]? = some (.cells #[.slice none 0 0, .int .i64 0, .int .i64 0, .int .i64 0, .int .i64 0, .int .i64 0] 25 (0, 0)) := hm4b.heap hbr.out (by omega)
          obtain ⟨b0, b1, b2, b3, b4, b5, f0, f1, f2, f3, f4, f5⟩ := six_of hb4
          obtain ⟨W6, hW6, hb6, hm6⟩ := set6 hb4 (.slice none 0 0) (.int .i64 0) (.int .i64 0) (.int .i64 0) (.int .i64 0) (.int .i64 0)
          have hrr : Hid (r = (cfg0, (n : Int), er)) := hide (by
            rw [hr2.out, hlin.out, hdrop.out, linesR_bad (by rw [her.out]; exact he), endR_err (by show (lineR (s0 :: ns) st).1 ≠ 0; rw [her.out]; exact he)]
            show (cfg0, (n : Int), (lineR (s0 :: ns) st).1) = _
            rw [her.out])
          have hmf : Hid (Mod NoB w W6) := hide ((hmw2.out.into hm4b (fun b' h => Or.inr (by omega))).into hm6 (fun b' e => Or.inr (by omega)))
          have hne : ¬ g = w.heap.size := by
            intro e
            have h2 := hx2.out
            rw [e] at h2
            rcases (by omega : i = 0 ∨ i = 1 ∨ i = 2 ∨ 3 ≤ i) with rfl | rfl | rfl | h3
            · simp [World.cell?, hb.out] at h2
            · simp [World.cell?, hb.out] at h2
            · simp [World.cell?, hb.out] at h2
            · simp [World.cell?, hb.out] at h2
              rw [List.getElem?_eq_none (by simp; omega)] at h2
              cases h2
          replace hW6 := hide hW6
          replace hb6 := hide hb6
          replace hb4 := hide hb4
          clear hok hm4 hm4b hm6
          go_wp2_with fail
          go_region_with ((fail))
          all_goals
            go_wp2
            rw [hW6.out]
            clear b0 b1 b2 b3 b4 b5 f0 f1 f2 f3 f4 f5
            obtain ⟨b0, b1, b2, b3, b4, b5, -⟩ := six_of hb6.out
            rw [hrr.out]
            refine bodyPost_ret (v := .tuple #[.agg #[.slice none 0 0, .int .i64 0, .int .i64 0, .int .i64 0, .int .i64 0, .int .i64 0], .int .i64 n, .int .i64 er]) (by simp [results, Tryd.results11, go_sem, b0, b1, b2, b3, b4, b5]) rfl ⟨.err, hmf.out.drew⟩
      · obtain rfl : i = L.length := by omega
        rw [List.drop_length] at hlin
        have hend : linesR L st0 = (0, 0, st) := hlin
        rw [hend] at hr2
        clear hlin hend
        have hlow := hC.low
        have hbcn := hC.ne
        have hseenb := hide hC.seen
        obtain ⟨sv, hcb, hown⟩ := hC.cfg
        obtain ⟨sp, sn, sc, rfl⟩ := own_slice hown
        obtain ⟨rfl, hints, hge⟩ := own_ints hown
        have hsc : st.1.srv.length ≤ sc := by
          rcases hown.2 with ⟨h1, h2⟩ | ⟨g, cap', cur, hv, _, _, hc, _⟩
          · simp at h1; omega
          · simp at hv; omega
        have hb6 := hbr.out
        have hge2 : ∀ b' off, sp = some ⟨b', off, none⟩ → w.heap.size ≤ b' := fun b' off e => by have := hge b' off e; omega
        have hchk := rcheck_any sp st.1.srv sc st.1.q st.1.l st.1.m st.1.d st.1.s wr hints (by omega)
        have hr3 := hide (fun (h5 : seenAll st.2 = true) (he : checkC st.1 ≠ 0) => hr2.out.trans (endR_check (x := (0, 0, st)) rfl h5 he))
        have hr4 := hide (fun (h5 : seenAll st.2 = true) (he : checkC st.1 = 0) => hr2.out.trans (endR_ok (x := (0, 0, st)) rfl h5 he))
        have hr5 := hide (fun (h5 : seenAll st.2 = false) => hr2.out.trans (endR_lack (x := (0, 0, st)) rfl h5))
        have hce : checkR st.1.srv st.1.q st.1.l st.1.m st.1.d st.1.s = checkC st.1 := rfl
        rw [hce] at hchk
        obtain ⟨er, her⟩ : ∃ er, checkC st.1 = er := ⟨_, rfl⟩
        rw [her] at hr3 hr4 hchk
        obtain ⟨b0, b1, b2, b3, b4, b5, f0, f1, f2, f3, f4, f5⟩ := six_of hb6
        obtain ⟨c0, c1, c2, c3, c4, c5, -⟩ := six_of hcb
        replace hchk := hide hchk
        replace her := hide her
        replace hown := hide hown
        replace hints := hide hints
        replace hge := hide hge
        replace hge2 := hide hge2
        replace hcb := hide hcb
        replace hb6 := hide hb6
        replace hm := hide hm
        replace hC := hide hC
        clear hce
        go_wp2_with fail
        go_loop [11] (fun vi => ∃ (k : Nat), k ≤ 5 ∧ vi = .int .i64 k ∧ (∀ j, j < k → st.2 j = true)) (fun vi => 5 - (intOf vi).toNat)
        case atStart => exact ⟨0, by omega, rfl, by omega⟩
        case round =>
          obtain ⟨k, hk5, rfl, hall⟩ := hrel
          by_cases hk : k < 5
          · have hsk := cell_of_block hseenb.out k (seenV_at st.2 k hk)
            have hd : decide ((k : Int) < 5) = true := by simp; omega
            have hi0 : (0 : Int) ≤ (k : Int) := by omega
            have hi5 : (k : Int) < 5 := by omega
            cases hsn : st.2 k with
            | true =>
              have hall' : Hid (∀ j, j < k + 1 → st.2 j = true) := hide (fun j hj => by
                by_cases h : j < k
                · exact hall j h
                · obtain rfl : j = k := by omega
                  exact hsn)
              replace hall := hide hall
              go_wp2_with fail
              go_round
              case rel => exact ⟨k + 1, by omega, by go_num, hall'.out⟩
              case measure => simp [intOf]; omega
            | false =>
              have hrr := hide (hr5.out (seenAll_false hk hsn))
              obtain ⟨W6, hW6, hb7, hm7⟩ := set6 hb6.out (.slice none 0 0) (.int .i64 0) (.int .i64 0) (.int .i64 0) (.int .i64 0) (.int .i64 0)
              have hmf : Hid (Mod NoB w W6) := hide (hmw2.out.into hm7 (fun b' e => Or.inr (by omega)))
              replace hW6 := hide hW6
              replace hb7 := hide hb7
              replace hall := hide hall
              clear hm7
              go_wp2
              rw [hW6.out]
              clear b0 b1 b2 b3 b4 b5 f0 f1 f2 f3 f4 f5
              obtain ⟨b0, b1, b2, b3, b4, b5, -⟩ := six_of hb7.out
              rw [hrr.out]
              refine bodyPost_ret (v := .tuple #[.agg #[.slice none 0 0, .int .i64 0, .int .i64 0, .int .i64 0, .int .i64 0, .int .i64 0], .int .i64 0, .int .i64 13]) (by simp [results, Tryd.results11, go_sem, b0, b1, b2, b3, b4, b5]) rfl ⟨.err, hmf.out⟩
          · obtain rfl : k = 5 := by omega
            have hall5 := hide (seenAll_true hall)
            replace hall := hide hall
            go_wp2_with fail
            refine hchk.out.mono ?_
            rintro e w7 ⟨rfl, hm7⟩
            have hb7 := hm7.heap hb6.out id
            have hcb7 := hm7.heap hcb.out id
            clear c0 c1 c2 c3 c4 c5 b0 b1 b2 b3 b4 b5 f0 f1 f2 f3 f4 f5
            obtain ⟨c0, c1, c2, c3, c4, c5, -⟩ := six_of hcb7
            obtain ⟨b0, b1, b2, b3, b4, b5, f0, f1, f2, f3, f4, f5⟩ := six_of hb7
            have hmr7 := hide (hmw2.out.trans hm7)
            have hints7 : Hid (IntsL w7 sp st.1.srv) := hide (hints.out.mod0 hm7)
            replace hm7 := hide hm7
            replace hcb7 := hide hcb7
            by_cases he : er = 0
            · have heb : (er != 0) = false := by rw [he]; rfl
              obtain ⟨W6, hW6, hb8, hm8⟩ := set6 hb7 (.slice sp st.1.srv.length sc) (.int .i64 st.1.q) (.int .i64 st.1.l) (.int .i64 st.1.m) (.int .i64 st.1.d) (.int .i64 st.1.s)
              have hmf : Hid (Mod NoB w W6) := hide (hmr7.out.into hm8 (fun b' e => Or.inr (by omega)))
              have hints8 : Hid (IntsL W6 sp st.1.srv) := hide (hints7.out.mod hm8 (fun b' off e => by have := hge.out b' off e; omega))
              have hrr := hide (hr4.out hall5.out he)
              replace hW6 := hide hW6
              replace hb8 := hide hb8
              replace hb7 := hide hb7
              clear hm8
              go_wp2
              rw [hW6.out]
              clear b0 b1 b2 b3 b4 b5 f0 f1 f2 f3 f4 f5
              obtain ⟨b0, b1, b2, b3, b4, b5, -⟩ := six_of hb8.out
              rw [hrr.out]
              refine bodyPost_ret (v := .tuple #[.agg #[.slice sp st.1.srv.length sc, .int .i64 st.1.q, .int .i64 st.1.l, .int .i64 st.1.m, .int .i64 st.1.d, .int .i64 st.1.s], .int .i64 0, .int .i64 0]) (by simp [results, Tryd.results11, go_sem, b0, b1, b2, b3, b4, b5]) rfl ⟨⟨sp, sc, rfl, hints8.out, hsc, hge2.out, h16⟩, hmf.out⟩
            · have heb : (er != 0) = true := by simpa [bne_iff_ne] using he
              obtain ⟨W6, hW6, hb8, hm8⟩ := set6 hb7 (.slice none 0 0) (.int .i64 0) (.int .i64 0) (.int .i64 0) (.int .i64 0) (.int .i64 0)
              have hmf : Hid (Mod NoB w W6) := hide (hmr7.out.into hm8 (fun b' e => Or.inr (by omega)))
              have hrr := hide (hr3.out hall5.out he)
              replace hW6 := hide hW6
              replace hb8 := hide hb8
              replace hb7 := hide hb7
              clear hm8
              go_wp2
              rw [hW6.out]
              clear b0 b1 b2 b3 b4 b5 f0 f1 f2 f3 f4 f5
              obtain ⟨b0, b1, b2, b3, b4, b5, -⟩ := six_of hb8.out
              rw [hrr.out]
              refine bodyPost_ret (v := .tuple #[.agg #[.slice none 0 0, .int .i64 0, .int .i64 0, .int .i64 0, .int .i64 0, .int .i64 0], .int .i64 0, .int .i64 er]) (by simp [results, Tryd.results11, go_sem, b0, b1, b2, b3, b4, b5]) rfl ⟨.err, hmf.out⟩
end Go.Proofs.YtdcmjjinmnbaoaaDoor
namespace Go.Proofs.YtdcmjjinmnbaoaaDoor
open Go.RowKit

def aliveC : List UInt8 := [115, 101, 114, 118, 101, 114, 32, 55, 10, 113, 117, 111, 114, 117, 109, 32, 49, 10, 112, 111, 108, 108, 32, 52, 32, 49, 54, 10, 100, 101, 108, 97, 121, 32, 49, 48, 48, 48, 10, 115, 108, 101, 119, 32, 53, 48, 48]
theorem aliveC_1 : (parseR aliveC).1 = ⟨[7], 1, 4, 16, 1000, 500⟩ := by kernel_rfl
theorem aliveC_2 : (parseR aliveC).2.1 = 0 := by kernel_rfl
theorem aliveC_3 : (parseR aliveC).2.2 = 0 := by kernel_rfl

/-- How a text's parse ends, said of the values. -/
theorem ParseOut.vals {r : Cfg × Int × Int} {w w' : World} {e : Ending} (h : ParseOut r w e w') {a : Cfg} {n er : Int} (h1 : r.1 = a) (h2 : r.2.1 = n) (h3 : r.2.2 = er) :
    ∃ p c, e = .returned (.tuple #[a.val p c, .int .i64 n, .int .i64 er]) ∧ IntsL w' p a.srv ∧ a.srv.length ≤ c ∧ (∀ b off, p = some ⟨b, off, none⟩ → w.heap.size ≤ b) ∧ a.srv.length ≤ 16 := by
  subst h1; subst h2; subst h3; exact h

set_option maxRecDepth 100000 in
set_option maxHeartbeats 4000000 in
theorem calive_any (w : World) (hL : LaidN w) : Calls Tryd.prog 9 #[] w fun e w' => e = .returned (.bool true) ∧ Mod NoB w w' := by
  have hl0 := parse_any aliveC (by decide) w hL
  have hl : Calls Tryd.prog 10 #[.string ⟨#[115, 101, 114, 118, 101, 114, 32, 55, 10, 113, 117, 111, 114, 117, 109, 32, 49, 10, 112, 111, 108, 108, 32, 52, 32, 49, 54, 10, 100, 101, 108, 97, 121, 32, 49, 48, 48, 48, 10, 115, 108, 101, 119, 32, 53, 48, 48]⟩] w fun e w' => ParseOut (parseR aliveC) w e w' ∧ Mod NoB w w' := hl0
  replace hl := hide hl
  clear hl0
  go_enter Tryd.func9, Tryd.ntmps9
  go_wp2_with fail
  refine hl.out.mono ?_
  rintro e w1 ⟨ho, hm⟩
  obtain ⟨p, c, rfl, hints, hc, -, -⟩ := ho.vals aliveC_1 aliveC_2 aliveC_3
  obtain ⟨b, off, rfl, hb, hcell⟩ := hints 0 (by decide)
  replace hm := hide hm
  replace hints := hide hints
  have hcell' : w1.cell? ⟨b, off, none⟩ = some (.int .i64 7) := hcell
  have hlt := lt_of_cell hcell'
  clear hcell
  go_wp2
  go_ret
  exact ⟨rfl, hm.out.alloc _⟩
end Go.Proofs.YtdcmjjinmnbaoaaDoor
namespace Go.Proofs.YtdcmjjinmnbaoaaDoor
open Go.RowKit

theorem srvT_take {xs : List Int} {i : Nat} (h : i < xs.length) : srvT (xs.take (i + 1)) = srvT (xs.take i) ++ lineT [115, 101, 114, 118, 101, 114] [xs.getD i 0] := by
  have : xs.take (i + 1) = xs.take i ++ [xs.getD i 0] := by
    rw [List.take_add_one]
    simp [List.getD, h]
  rw [this, srvT_snoc]

set_option maxRecDepth 100000 in
set_option maxHeartbeats 8000000 in
theorem rprint_any (p : Option Addr) (xs : List Int) (c : Nat) (q l m d s : Int) (w : World) (h : IntsL w p xs) (hf : Fine xs q l m d s) :
    Calls Tryd.prog 17 #[cfgV p xs.length c q l m d s] w fun e w' => e = .returned (.string (bs (printT xs q l m d s))) ∧ Mod NoB w w' := by
  obtain ⟨⟨hl0, hl1⟩, ⟨hm0, hm1⟩, ⟨hq0, hq1⟩, ⟨hd0, hd1⟩, ⟨hs0, hs1⟩⟩ := fine_nums hf
  have h16 := hf.few
  have hsrv := hide (srvErr_pre hf.srv)
  have hB := heap_alloc_new w (.cells #[.slice p xs.length c, .int .i64 q, .int .i64 l, .int .i64 m, .int .i64 d, .int .i64 s] 25)
  replace hB := hide hB
  replace h := hide h
  replace hf := hide hf
  go_enter Tryd.func17, Tryd.ntmps17
  go_wp2_with fail
  obtain ⟨W1, hW1⟩ : ∃ W1, w.alloc (.cells #[.slice p xs.length c, .int .i64 q, .int .i64 l, .int .i64 m, .int .i64 d, .int .i64 s] 25) = W1 := ⟨_, rfl⟩
  rw [hW1] at hB ⊢
  have hmw1 : Hid (Mod NoB w W1) := hide (by rw [← hW1]; exact (Mod.refl _ _).alloc _)
  clear hW1
  go_loopw [3, 4] (fun vs vi wr => ∃ i : Nat, i ≤ xs.length ∧ vi = .int .i64 i ∧ vs = .string (bs (srvT (xs.take i))) ∧ Mod NoB W1 wr) (fun _ vi _ => xs.length - (intOf vi).toNat)
  case atStart => exact ⟨0, by omega, rfl, rfl, Mod.refl _ _⟩
  case round =>
    obtain ⟨i, hi, rfl, rfl, hmr⟩ := hrel
    have hBr := hmr.heap hB.out id
    have b0 := cell_of_block hBr 0 (v := .slice p xs.length c) rfl
    by_cases hlt : i < xs.length
    · obtain ⟨b, off, rfl, hb, hcell⟩ := h.out i hlt
      replace hcell := (hmw1.out.trans hmr).cellAt id hcell
      obtain ⟨x1, x2, _⟩ := hsrv.out i hlt
      have hst := hide (srvT_take hlt)
      have hi0 : (0 : Int) ≤ (i : Int) := by omega
      have hi1 : (i : Int) < (xs.length : Int) := by omega
      have hTl : (srvT (xs.take i)).length ≤ 300 := by have := srvT_len (xs.take i); simp at this; omega
      generalize xs.getD i 0 = x at hcell x1 x2 hst
      have htl := text_lenK x
      replace hmr := hide hmr
      replace hBr := hide hBr
      go_wp2_with fail
      refine (rtext_any x (by omega) (by omega) _).mono ?_
      rintro e w2 ⟨rfl, hm2⟩
      replace hmr := hide (hmr.out.trans hm2)
      clear hm2
      go_wp2_with fail
      go_roundw
      case rel =>
        refine ⟨i + 1, by omega, by go_num, ?_, hmr.out⟩
        rw [hst.out]
        refine congrArg Value.string ?_
        apply ByteArray.ext
        simp [lineT, numsT]
      case measure => simp [intOf]; omega
    · obtain rfl : i = xs.length := by omega
      rw [List.take_length]
      have hTl : (srvT xs).length ≤ 300 := by have := srvT_len xs; omega
      have z1 := text_lenK q
      have z2 := text_lenK l
      have z3 := text_lenK m
      have z4 := text_lenK d
      have z5 := text_lenK s
      have b1 := cell_of_block hBr 1 (v := .int .i64 q) rfl
      replace hmr := hide hmr
      go_wp2_with fail
      refine (rtext_any q (by omega) (by omega) _).mono ?_
      rintro e w2 ⟨rfl, hm2⟩
      have hB2 := hm2.heap hBr id
      replace hmr := hide (hmr.out.trans hm2)
      have b2 := cell_of_block hB2 2 (v := .int .i64 l) rfl
      have b3 := cell_of_block hB2 3 (v := .int .i64 m) rfl
      replace hB2 := hide hB2
      have y2 := Since.cell b2
      have y3 := Since.cell b3
      have t1 := fun (y : Since w2) => Since.call y (fun w' _ => rtext_any l (by omega) (by omega) w')
      have t2 := fun (y : Since w2) => Since.call y (fun w' _ => rtext_any m (by omega) (by omega) w')
      replace t1 := hide t1
      replace t2 := hide t2
      clear hm2 b2 b3 b0 b1
      go_wp2_with fail
      refine wp_region_mod (by kernel_rfl) (by kernel_rfl) ?_
      repeat (go_big_quiet_step ((go_at_call 33; first | with_reducible exact t1.out _ | with_reducible exact t2.out _)))
      refine wpQuiet_nil ?_
      rintro w3 ⟨⟨w3', hm3⟩, hw3⟩
      obtain rfl : w3 = w3' := hw3
      have hB3 := hm3.heap hB2.out id
      replace hmr := hide (hmr.out.trans hm3)
      have b4 := cell_of_block hB3 4 (v := .int .i64 d) rfl
      replace hB3 := hide hB3
      clear hm3 y2 y3
      go_wp2_with fail
      refine (rtext_any d (by omega) (by omega) _).mono ?_
      rintro e w4 ⟨rfl, hm4⟩
      have hB4 := hm4.heap hB3.out id
      replace hmr := hide (hmr.out.trans hm4)
      have b5 := cell_of_block hB4 5 (v := .int .i64 s) rfl
      replace hB4 := hide hB4
      clear hm4 b4
      go_wp2_with fail
      refine (rtext_any s (by omega) (by omega) _).mono ?_
      rintro e w5 ⟨rfl, hm5⟩
      replace hmr := hide (hmr.out.trans hm5)
      clear hm5
      go_wp2
      go_ret
      refine ⟨?_, hmw1.out.trans hmr.out⟩
      refine congrArg (fun x => Ending.returned (Value.string x)) ?_
      apply ByteArray.ext
      simp [printT, lineT, numsT]
end Go.Proofs.YtdcmjjinmnbaoaaDoor
namespace Go.Proofs.YtdcmjjinmnbaoaaDoor
open Go.Joins Go.ChangeShapes Go.WideShapes Go.RowKit Go.Deep Go.ChangeAt

section
variable {H : Type} {enc : TypeId × Value → H} {P : Program} {w : World} {base : Nat} {spare : Nat → Bool} {held : Bool}
theorem open_agg6 {r : Reach} {b0 : Nat} {t : TypeId} {f0 f1 f2 f3 f4 f5 : Field} {v : Value} {d : DataW H} {p : List MemPlace} (hs : P.underlying t = some (.struct #[f0, f1, f2, f3, f4, f5])) (hone : oneCellFields P #[f0, f1, f2, f3, f4, f5] = true) (hC : P.cellsOf t = 6)
    (hv : Value.okWide P w r b0 t v) (h : DataW.Trod enc P w base spare held t v d p) :
    ∃ (v0 v1 v2 v3 v4 v5 : Value) (y0 y1 y2 y3 y4 y5 : DataW H × List MemPlace) (n : Nat), v = .agg #[v0, v1, v2, v3, v4, v5] ∧ d = .agg [y0.1, y1.1, y2.1, y3.1, y4.1, y5.1] ∧ p = y0.2 ++ (y1.2 ++ (y2.2 ++ (y3.2 ++ (y4.2 ++ y5.2)))) ∧
      DataW.trod enc P w base spare held n f0.type [v0] = some y0 ∧ DataW.trod enc P w base spare held n f1.type [v1] = some y1 ∧ DataW.trod enc P w base spare held n f2.type [v2] = some y2 ∧ DataW.trod enc P w base spare held n f3.type [v3] = some y3 ∧ DataW.trod enc P w base spare held n f4.type [v4] = some y4 ∧ DataW.trod enc P w base spare held n f5.type [v5] = some y5 := by
  obtain ⟨cs, rfl, hsz⟩ := okWide_struct hs hv
  obtain ⟨l⟩ := cs
  match l, hsz.trans hC with
  | [c0, c1, c2, c3, c4, c5], _ =>
    obtain ⟨fuel, hf⟩ := h
    obtain ⟨xs, n, _, hx, _, hlen, hg⟩ := DataW.trod_struct hs hf
    obtain ⟨o0, k0⟩ := hone_of hone 0 f0 rfl
    obtain ⟨o1, k1⟩ := hone_of hone 1 f1 rfl
    obtain ⟨o2, k2⟩ := hone_of hone 2 f2 rfl
    obtain ⟨o3, k3⟩ := hone_of hone 3 f3 rfl
    obtain ⟨o4, k4⟩ := hone_of hone 4 f4 rfl
    obtain ⟨o5, k5⟩ := hone_of hone 5 f5 rfl
    match xs, hlen with
    | [y0, y1, y2, y3, y4, y5], _ =>
      simp only [Prod.mk.injEq] at hx
      exact ⟨c0, c1, c2, c3, c4, c5, y0, y1, y2, y3, y4, y5, n, rfl, by simpa using hx.1, by simpa using hx.2, by simpa [Value.cells, o0, k0] using hg 0 f0 rfl, by simpa [Value.cells, o1, k1] using hg 1 f1 rfl, by simpa [Value.cells, o2, k2] using hg 2 f2 rfl, by simpa [Value.cells, o3, k3] using hg 3 f3 rfl, by simpa [Value.cells, o4, k4] using hg 4 f4 rfl, by simpa [Value.cells, o5, k5] using hg 5 f5 rfl⟩
end

/-- Ints handed in, as a slice. -/
theorem open_intsL {H : Type} {enc : TypeId × Value → H} {P : Program} {w : World} {t e : TypeId} {n : Nat} {v : Value} {x : DataW H × List MemPlace} (ht : P.underlying t = some (.slice e)) (he : P.underlying e = some (.int .i64)) (hc : P.cellsOf e = 1)
    (h : DataW.trod enc P w 0 (fun _ => true) true n t [v] = some x) :
    ∃ (p : Option Addr) (xs : List Int) (c : Nat), v = .slice p xs.length c ∧ IntsL w p xs ∧ xs.length ≤ c ∧ c ≤ 9223372036854775807 ∧ (∀ z ∈ xs, I64 z) := by
  rcases Go.ChangeShapes.open_ints ht he hc h with ⟨hcs, _⟩ | ⟨a, len, cap, zs, hcs, _, hl, hm, hzl, _, hcell, hwf⟩
  · simp at hcs
    exact ⟨none, [], 0, hcs, fun j hj => by simp at hj, by simp, by omega, by simp⟩
  · simp at hcs
    unfold maxLen at hm
    simp at hzl
    have hll : (zs.take len).length = len := by simp; omega
    refine ⟨some a, zs.take len, cap, by rw [hll]; exact hcs, fun j hj => ?_, by omega, by omega, fun z hz => i64_of_wf (hwf z (List.mem_of_mem_take hz))⟩
    rw [hll] at hj
    obtain ⟨b, off, spot⟩ := a
    have h0 := hcell j (by omega)
    have hspot : spot = none := by simpa [Addr.add] using World.cell?_spot (hcell 0 (by omega))
    subst hspot
    rw [add_plain] at h0
    refine ⟨b, off, rfl, World.block_lt_of_cell? w _ h0, ?_⟩
    rw [h0]
    simp [List.getD, List.getElem?_take_of_lt hj]

theorem open_int1 {H : Type} {enc : TypeId × Value → H} {P : Program} {w : World} {t : TypeId} {n : Nat} {v : Value} {x : DataW H × List MemPlace} (ht : P.underlying t = some (.int .i64))
    (h : DataW.trod enc P w 0 (fun _ => true) true n t [v] = some x) : ∃ z, v = .int .i64 z ∧ I64 z := by
  obtain ⟨z, hz, _, hw⟩ := DataW.trod_int ht h
  simp at hz
  exact ⟨z, hz, i64_of_wf hw⟩

/-- What a config that is handed in is. -/
structure CfgOk (a : Cfg) : Prop where
  srv : ∀ z ∈ a.srv, I64 z
  q : I64 a.q
  l : I64 a.l
  m : I64 a.m
  d : I64 a.d
  s : I64 a.s

set_option maxRecDepth 100000 in
theorem open_cfg {H : Type} {enc : TypeId × Value → H} {w : World} {r : Reach} {b0 : Nat} {v : Value} {d : DataW H} {ps : List MemPlace} (hv : Value.okWide Tryd.prog w r b0 25 v) (h : DataW.Trod enc Tryd.prog w 0 (fun _ => true) true 25 v d ps) :
    ∃ (a : Cfg) (p : Option Addr) (c : Nat), v = a.val p c ∧ IntsL w p a.srv ∧ a.srv.length ≤ c ∧ c ≤ 9223372036854775807 ∧ CfgOk a := by
  obtain ⟨v0, v1, v2, v3, v4, v5, y0, y1, y2, y3, y4, y5, n, rfl, _, _, h0, h1, h2, h3, h4, h5⟩ := open_agg6 Tryd.underlying25 (by kernel_rfl) (by kernel_rfl) hv h
  obtain ⟨p, xs, c, rfl, hi, hc, hm, hw⟩ := open_intsL Tryd.underlying23 Tryd.underlying3 (by kernel_rfl) h0
  obtain ⟨q, rfl, hq⟩ := open_int1 Tryd.underlying3 h1
  obtain ⟨l, rfl, hl⟩ := open_int1 Tryd.underlying3 h2
  obtain ⟨m, rfl, hm'⟩ := open_int1 Tryd.underlying3 h3
  obtain ⟨d', rfl, hd⟩ := open_int1 Tryd.underlying3 h4
  obtain ⟨s, rfl, hs⟩ := open_int1 Tryd.underlying3 h5
  exact ⟨⟨xs, q, l, m, d', s⟩, p, c, rfl, hi, hc, hm, ⟨hw, hq, hl, hm', hd, hs⟩⟩
end Go.Proofs.YtdcmjjinmnbaoaaDoor
