/- The document's line of a config (chapter 6), walked. -/
import Derived.Test.YtkajhggdgpbfeaaGreatDoorPNbh
namespace Go.Proofs.YtkajhggdgpbfeaaGreatDoor
open Go.RowKit

def seenV (s : Nat → Bool) : Array Value := #[.bool (s 0), .bool (s 1), .bool (s 2), .bool (s 3), .bool (s 4)]
/-- What the document's line works on. -/
structure RS (base bc bn : Nat) (st : St) (w : World) : Prop where
  cfg : CfgAt base bc st.1 w
  seen : w.heap[bn]? = some (.cells (seenV st.2) 162 (0, 0))
  low : bc < base ∧ bn < base
  size : base ≤ w.heap.size
theorem RS.ne {base bc bn : Nat} {st : St} {w : World} (h : RS base bc bn st w) : bc ≠ bn := by
  obtain ⟨v, h1, _⟩ := h.cfg
  rintro rfl
  have := h.seen
  rw [h1] at this
  simp [seenV] at this
theorem RS.keep {base bc bn : Nat} {st : St} {w w' : World} (h : RS base bc bn st w) (hm : Mod NoB w w') : RS base bc bn st w' :=
  ⟨let ⟨v, h1, h2⟩ := h.cfg; ⟨v, hm.heap h1 id, ownsRow_mod h2 hm (fun _ f => f.elim)⟩, hm.heap h.seen id, h.low, Nat.le_trans h.size hm.size⟩

def keysV : Array Value := #[.string ⟨#[115, 101, 114, 118, 101, 114]⟩, .string ⟨#[113, 117, 111, 114, 117, 109]⟩, .string ⟨#[112, 111, 108, 108]⟩, .string ⟨#[100, 101, 108, 97, 121]⟩, .string ⟨#[115, 108, 101, 119]⟩]
theorem keys_at : ∀ k, k < 5 → keysV[k]? = some (.string (bs (keyW k))) := by
  intro k hk
  rcases bounds5 k hk with rfl | rfl | rfl | rfl | rfl <;> rfl
theorem keyOf_at {s : List UInt8} {k : Nat} (hk : k < 5) (h : keyW k = s) : keyOf s = some k := by rw [← h]; exact keyOf_keyW hk
theorem keyOf_no {s : List UInt8} (h : ∀ j, j < 5 → keyW j ≠ s) : keyOf s = none := by
  cases hk : keyOf s with
  | none => rfl
  | some k => exact absurd (keyOf_some hk).2 (h k (keyOf_some hk).1)

def RLineOut (base bc bn : Nat) (st : St) (ws : List (List UInt8)) (e : Ending) (w' : World) : Prop :=
  e = .returned (.int .i64 (lineR ws st).1) ∧ ((lineR ws st).1 = 0 → RS base bc bn (lineR ws st).2 w')

set_option maxRecDepth 100000 in
set_option maxHeartbeats 16000000 in
theorem rline_any (base bc bn : Nat) (st : St) (s0 : List UInt8) (ns : List (List UInt8)) (g cap : Nat) (w : World) (hC : RS base bc bn st w) (hw : WordsAt g (s0 :: ns) w)
    (hcap : ns.length + 1 ≤ cap) (hcm : cap ≤ 9223372036854775807) (hnl : ns.length ≤ 1000000) (hlen : ∀ s ∈ ns, s.length ≤ 1000000) (h16 : st.1.srv.length ≤ 1000) :
    Calls Tryz.prog 70 #[at0c bc 0, at0c bn 0, .slice (some ⟨g, 0, none⟩) (ns.length + 1) cap] w fun e w' => RLineOut base bc bn st (s0 :: ns) e w' ∧ Mod (fun x => x = bc ∨ x = bn ∨ base ≤ x) w w' := by
  have hc := hw 0 s0 rfl
  have hcl := lt_of_cell hc
  obtain ⟨W1, hW1⟩ : ∃ W1, w.alloc (.cells keysV 9) = W1 := ⟨_, rfl⟩
  have hk1 : Hid (W1.heap[w.heap.size]? = some (.cells keysV 9 (0, 0))) := hide (by rw [← hW1]; exact heap_alloc_new _ _)
  have hm1 : Hid (Mod NoB w W1) := hide (by rw [← hW1]; exact (Mod.refl _ _).alloc _)
  have hc1 : Hid (W1.cell? ⟨g, 0, none⟩ = some (.string (bs s0))) := hide (hm1.out.cellAt id hc)
  unfold keysV at hW1
  replace hC := hide hC
  replace hw := hide hw
  replace hW1 := hide hW1
  have hcapi : (1 : Int) ≤ (cap : Int) := by omega
  go_enter Tryz.func70, Tryz.ntmps70
  go_wp2_with fail
  rw [hW1.out]
  go_loopw [8] (fun vi wr => ∃ (i : Nat), i ≤ 5 ∧ vi = .int .i64 i ∧ (∀ j, j < i → keyW j ≠ s0) ∧ Mod NoB W1 wr) (fun vi _ => 5 - (intOf vi).toNat)
  case atStart => exact ⟨0, by omega, rfl, by omega, Mod.refl _ _⟩
  case round =>
    obtain ⟨k, hk5, rfl, hno, hm⟩ := hrel
    have hcr := hm.cellAt id hc1.out
    have hk0 : (0 : Int) ≤ (k : Int) := by omega
    by_cases hlt : k < 5
    · have hkey := cell_of_block (hm.heap hk1.out id) k (keys_at k hlt)
      have hd : decide ((k : Int) < 5) = true := by simp; omega
      by_cases hks : keyW k = s0
      · have hkk : Hid (keyOf s0 = some k) := hide (keyOf_at hlt hks)
        have hne : (keyW k == s0) = true := by rw [hks]; simp
        have hcl1 : Mod NoB w wr := hm1.out.trans hm
        have hkx : keyOf ((s0 :: ns).getD 0 []) = some k := hkk.out
        have hdx : (s0 :: ns).drop 1 = ns := rfl
        by_cases hf : (ns.length : Int) = manyW k
        · have hn12 : ns.length ≤ 2 := by have := many_small k hlt; omega
          have hn1 : 1 ≤ ns.length := by have := many_small k hlt; omega
          have hnw := fun (w' : World) (h : Mod NoB w w') => rnumbers_any ns g 1 (cap - 1) w' (fun j s hs => h.cellAt id (hw.out (1 + j) s (by rw [Nat.add_comm]; simpa using hs))) hn12 hlen
          have hlK : lineR (s0 :: ns) st = if numsE ns ≠ 0 then (numsE ns, st) else if st.2 k = true ∧ k ≠ 0 then (12, st) else takeR k (numsV ns ns.length) (st.1, upd st.2 k true) := by
            unfold lineR
            rw [hkx]
            show lineK k _ _ = _
            unfold lineK
            rw [if_neg (by simp; omega), hdx]
            have hnv : numsV ns ns.length = ns.map fun s => (numR s).1 := by unfold numsV; rw [List.take_length]
            rw [hnv]
          have hxl := numsV_len (ns := ns) (i := ns.length) (Nat.le_refl _)
          obtain ⟨xs, hxs⟩ : ∃ xs, numsV ns ns.length = xs := ⟨_, rfl⟩
          unfold NumsOut at hnw
          rw [hxs] at hlK hxl hnw
          obtain ⟨ne, hne2⟩ : ∃ ne, numsE ns = ne := ⟨_, rfl⟩
          rw [hne2] at hlK hnw
          replace hnw := hide hnw
          replace hlK := hide hlK
          replace hxl := hide hxl
          replace hxs := hide hxs
          replace hne2 := hide hne2
          replace hno := hide hno
          replace hm := hide hm
          replace hcl1 := hide hcl1
          replace hks := hide hks
          have hcap1 : (1 : Int) < (cap : Int) := by omega
          have hneq : ¬ cap = 1 := by omega
          clear hkx hdx
          have hl32 : if k = 2 then ((ns.length : Int) + 1 != 3) = false else ((ns.length : Int) + 1 != 2) = false := by
            rcases bounds5 k hlt with rfl | rfl | rfl | rfl | rfl
            all_goals
              have hf' := hf
              simp [manyW] at hf'
              simp
              omega
          replace hf := hide hf
          rcases bounds5 k hlt with rfl | rfl | rfl | rfl | rfl
          · rw [if_neg (by decide)] at hl32
            go_wp2_with fail
            go_quiet (fail)
            go_wp2_with fail
            refine (hnw.out _ (by first | exact hcl1.out.drewN _ | exact hcl1.out.drew)).mono ?_
            rintro e w2 ⟨(⟨h0, rfl⟩ | ⟨h0, x', y', rfl⟩), hm2⟩
            · obtain ⟨x, hx⟩ : ∃ x, xs.getD 0 0 = x := ⟨_, rfl⟩
              obtain ⟨y, hy⟩ : ∃ y, xs.getD 1 0 = y := ⟨_, rfl⟩
              rw [hx, hy]
              replace hx := hide hx
              replace hy := hide hy
              have hwm2 : Mod NoB w w2 := ((hcl1.out.drewN _).trans hm2)
              obtain ⟨W3, hW3⟩ : ∃ W3, w2.alloc (.cells #[.int .i64 x, .int .i64 y] 232) = W3 := ⟨_, rfl⟩
              have hn3 : Hid (W3.heap[w2.heap.size]? = some (.cells #[.int .i64 x, .int .i64 y] 232 (0, 0))) := hide (by rw [← hW3]; exact heap_alloc_new _ _)
              have hm3 : Hid (Mod NoB w W3) := hide (by rw [← hW3]; exact hwm2.alloc _)
              have hW3s : w2.heap.size < W3.heap.size := lt_of_block hn3.out
              have hws : w.heap.size ≤ w2.heap.size := hwm2.size
              have hC3 := hC.out.keep hm3.out
              replace hW3 := hide hW3
              obtain ⟨sv, hcb, hown⟩ := hC3.cfg
              obtain ⟨sp, sn, sc, rfl⟩ := own_slice hown
              obtain ⟨rfl, hints, hge⟩ := own_ints hown
              have hsc : st.1.srv.length ≤ sc := by
                rcases hown.2 with ⟨h1, h2⟩ | ⟨g, cap', cur, hv, _, _, hc, _⟩
                · simp at h1; omega
                · simp at hv; omega
              have hl0 : Hid (lineR (s0 :: ns) st = takeR 0 xs (st.1, upd st.2 0 true)) := hide (by
                rw [hlK.out, if_neg (by rw [h0]; simp), if_neg (by simp)])
              replace hC3 := hide hC3
              replace hcb := hide hcb
              replace hown := hide hown
              replace hints := hide hints
              replace hge := hide hge
              replace h0 := hide h0
              clear hm2 hwm2
              go_wp2_with fail
              rw [hW3.out]
              go_loopw [11] (fun vi wr => ∃ (i : Nat), i ≤ st.1.srv.length ∧ vi = .int .i64 i ∧ x ∉ st.1.srv.take i ∧ Mod NoB W3 wr) (fun vi _ => st.1.srv.length - (intOf vi).toNat)
              case atStart => exact ⟨0, by omega, rfl, by simp, Mod.refl _ _⟩
              case round =>
                obtain ⟨i, hil, rfl, hnin, hmr⟩ := hrel
                have q0 := cell_of_block (hmr.heap hcb.out id) 0 (v := .slice sp st.1.srv.length sc) rfl
                have qn := cell_of_block (hmr.heap hn3.out id) 0 (v := .int .i64 x) rfl
                by_cases hlt2 : i < st.1.srv.length
                · obtain ⟨bq, oq, hp, _, hcell⟩ := hints.out i hlt2
                  replace hcell := hmr.cellAt id hcell
                  have hi0 : (0 : Int) ≤ (i : Int) := by omega
                  have hi1 : (i : Int) < (st.1.srv.length : Int) := by omega
                  subst hp
                  by_cases hv : x = st.1.srv.getD i 0
                  · have hin : inI st.1.srv x = true := by
                      unfold inI
                      rw [List.contains_eq_mem, hv]
                      simp [List.getD, hlt2]
                    have hend : Hid ((lineR (s0 :: ns) st).1 = 12) := hide (by rw [hl0.out]; unfold takeR; rw [if_pos rfl, hx.out, if_pos hin])
                    rw [← hv] at hcell
                    replace hnin := hide hnin
                    replace hmr := hide hmr
                    clear hin hv
                    have hxx : (x == x) = true := by simp
                    go_wp2_with fail
                    go_quiet (fail)
                    go_wp2
                    go_ret
                    exact ⟨⟨int_ret hend.out.symm, fun h => by rw [hend.out] at h; simp at h⟩, ((hm3.out.trans hmr.out).drewN _).mono (fun _ _ f => f.elim)⟩
                  · have hxx : (st.1.srv.getD i 0 == x) = false := beq_eq_false_iff_ne.mpr (fun e => hv e.symm)
                    have hnin' := hide (take_mem hlt2 hnin hv)
                    generalize st.1.srv.getD i 0 = x2 at hcell hxx hv
                    replace hnin := hide hnin
                    replace hmr := hide hmr
                    clear hv
                    go_wp2_with fail
                    go_quiet (fail)
                    go_wp2_with fail
                    go_roundw
                    case rel => exact ⟨i + 1, by omega, by go_num, hnin'.out, hmr.out.drewN _⟩
                    case measure => simp [intOf]; omega
                · obtain rfl : i = st.1.srv.length := by omega
                  rw [List.take_length] at hnin
                  have hin : inI st.1.srv x = false := by
                    unfold inI
                    rw [List.contains_eq_mem]
                    simpa using hnin
                  by_cases hl16 : st.1.srv.length = 16
                  · have hlb : ((st.1.srv.length : Int) == 16) = true := by rw [hl16]; rfl
                    have hend : Hid ((lineR (s0 :: ns) st).1 = 11) := hide (by rw [hl0.out]; unfold takeR; rw [if_pos rfl, hx.out, if_neg (by rw [hin]; simp), if_pos hl16])
                    replace hnin := hide hnin
                    replace hmr := hide hmr
                    replace hin := hide hin
                    replace hl16 := hide hl16
                    go_wp2
                    go_ret
                    exact ⟨⟨int_ret hend.out.symm, fun h => by rw [hend.out] at h; simp at h⟩, (hm3.out.trans hmr.out).mono (fun _ _ f => f.elim)⟩
                  · have hlb : ((st.1.srv.length : Int) == 16) = false := beq_eq_false_iff_ne.mpr (by omega)
                    have hend : Hid (lineR (s0 :: ns) st = (0, ({ st.1 with srv := st.1.srv ++ [x] }, upd st.2 0 true))) := hide (by
                      rw [hl0.out]; unfold takeR; rw [if_pos rfl, hx.out, if_neg (by rw [hin]; simp), if_neg hl16])
                    replace hnin := hide hnin
                    replace hin := hide hin
                    go_wp2_with fail
                    obtain ⟨i0, hi, hz0, hz1, hz2⟩ := info_parts infoInt
                    have hcbr := hmr.heap hcb.out id
                    have hownr := ownsRow_mod hown.out hmr (fun _ h => h.elim)
                    have hfr := frozen_of_block hcbr 0
                    have hCr := hC3.out.keep hmr
                    have hlow := hCr.low
                    have hbwr : base ≤ wr.heap.size := hCr.size
                    have hsn := hide hCr.seen
                    have hbcn := hCr.ne
                    have hmwr : Hid (Mod NoB w wr) := hide (hm3.out.trans hmr)
                    have lN := lt_of_cell qn
                    have lC := lt_of_cell q0
                    have hn3r := hide (hmr.heap hn3.out id)
                    replace hCr := hide hCr
                    replace hownr := hide hownr
                    replace hcbr := hide hcbr
                    replace hmr := hide hmr
                    replace hi := hide hi
                    replace hz0 := hide hz0
                    replace hz1 := hide hz1
                    replace hz2 := hide hz2
                    have hl16h := hide hl16
                    clear hlb hl16
                    go_region_law (
                      (refine step_append_own rfl (.tmp 85) (.tmp 88) 57 rfl base 3 i0 (.int .i64 0) 1 8 Tryz.underlying57 hi.out hz0.out hz1.out hz2.out rfl (by decide) (.slice sp st.1.srv.length sc) st.1.srv.length (st.1.srv.map (.int .i64)) rfl ?zzo ⟨_, 0, none⟩ 1 1 [.int .i64 x] rfl rfl ?zzn ?zzone ?zzm ?zzmb ?zzbase ?_; (case zzo => exact (ownsRow_mod (S := NoB) hownr.out ((Mod.refl _ _).alloc _).drew (fun _ f => f.elim))); (case zzn => exact cell_one_new _ _ _); (case zzone => (intro u hu; simp at hu; subst hu; rfl)); (case zzm => (unfold maxLen; omega)); (case zzmb => omega); (case zzbase => (simp; omega)); intro v' w7 hown' hgrow _; obtain ⟨p', n', c', rfl⟩ := own_slice hown'; have hm7 : Mod (fun x => base ≤ x) wr w7 := Mod.grownIn (((Mod.refl _ _).alloc _).drew) hgrow (own_ge hownr.out); have hb7 := hm7.heap hcbr.out (by omega); have d1 := cell_of_block hb7 0 (v := .slice sp st.1.srv.length sc) rfl; have d2 := frozen_of_block hb7 0; have hs7 := hm7.heap hsn.out (by omega); replace hown' := hide hown'; replace hb7 := hide hb7; replace hm7 := hide hm7; replace hs7 := hide hs7; clear hgrow))
                    all_goals
                      have hset : Mod (· = bc) w7 (w7.setCell ⟨bc, 0, none⟩ (.slice p' n' c')) := (Mod.refl _ _).set1 _ _
                      have hcf : (w7.setCell ⟨bc, 0, none⟩ (.slice p' n' c')).heap[bc]? = some (.cells #[.slice p' n' c', .int .i64 st.1.q, .int .i64 st.1.l, .int .i64 st.1.m, .int .i64 st.1.d, .int .i64 st.1.s] 59 (0, 0)) := by
                        rw [heap_setCell_eq hb7.out]; simp
                      have hsf := hset.heap hs7.out (fun e => hbcn e.symm)
                      have hof : (w7.setCell ⟨bc, 0, none⟩ (.slice p' n' c')).ownsRow base 3 1 (.slice p' n' c') (st.1.srv ++ [x]).length ((st.1.srv ++ [x]).map (.int .i64)) := by
                        have := ownsRow_mod (S := (· = bc)) hown'.out hset (fun b e => by omega)
                        simpa using this
                      have g0 := cell_of_block hsf 0 (v := .bool (st.2 0)) rfl
                      have g1 := frozen_of_block hsf 0
                      obtain ⟨W8, hW8⟩ : ∃ W8, w7.setCell ⟨bc, 0, none⟩ (.slice p' n' c') = W8 := ⟨_, rfl⟩
                      rw [hW8] at hset hcf hsf hof g0 g1
                      have hset2 : Mod (· = bn) W8 (W8.setCell ⟨bn, 0, none⟩ (.bool true)) := (Mod.refl _ _).set1 _ _
                      have hRS : Hid (RS base bc bn ({ st.1 with srv := st.1.srv ++ [x] }, upd st.2 0 true) (W8.setCell ⟨bn, 0, none⟩ (.bool true))) := hide ⟨⟨.slice p' n' c', hset2.heap hcf hbcn, ownsRow_mod hof hset2 (fun b e => by omega)⟩, by rw [heap_setCell_eq hsf]; rfl, hlow, by have := hm7.out.size; have := hset.size; have := hset2.size; omega⟩
                      have hmf : Hid (Mod (fun x => x = bc ∨ x = bn ∨ base ≤ x) w (W8.setCell ⟨bn, 0, none⟩ (.bool true))) := hide ((((hmwr.out.mono (fun _ _ f => f.elim)).trans (hm7.out.mono (fun x _ h => Or.inr (Or.inr h)))).trans (hset.mono (fun x _ h => Or.inl h))).trans (hset2.mono (fun x _ h => Or.inr (Or.inl h))))
                      replace hset := hide hset
                      replace hset2 := hide hset2
                      replace hcf := hide hcf
                      replace hsf := hide hsf
                      replace hof := hide hof
                      rw [hW8]
                      replace hW8 := hide hW8
                      go_wp2
                      go_ret
                      exact ⟨⟨int_ret (congrArg Prod.fst hend.out).symm, fun _ => by rw [hend.out]; exact hRS.out⟩, hmf.out⟩
            · have hnb : (ne != 0) = true := by simpa [bne_iff_ne] using h0
              have hend : Hid (lineR (s0 :: ns) st = (ne, st)) := hide (by rw [hlK.out, if_pos h0])
              have hfr : Hid (Mod NoB w w2) := hide ((hcl1.out.drewN _).trans hm2)
              clear hm2
              go_wp2
              go_ret
              refine ⟨⟨int_ret (congrArg Prod.fst hend.out).symm, fun h => ?_⟩, (hfr.out.alloc _).mono (fun _ _ f => f.elim)⟩
              rw [hend.out] at h
              exact absurd h h0
          · rw [if_neg (by decide)] at hl32
            go_wp2_with fail
            go_quiet (fail)
            go_wp2_with fail
            refine (hnw.out _ (by first | exact hcl1.out.drewN _ | exact hcl1.out.drew)).mono ?_
            rintro e w2 ⟨(⟨h0, rfl⟩ | ⟨h0, x', y', rfl⟩), hm2⟩
            · obtain ⟨x, hx⟩ : ∃ x, xs.getD 0 0 = x := ⟨_, rfl⟩
              obtain ⟨y, hy⟩ : ∃ y, xs.getD 1 0 = y := ⟨_, rfl⟩
              rw [hx, hy]
              have hwm2 : Mod NoB w w2 := ((hcl1.out.drewN _).trans hm2)
              obtain ⟨W3, hW3⟩ : ∃ W3, w2.alloc (.cells #[.int .i64 x, .int .i64 y] 232) = W3 := ⟨_, rfl⟩
              have hn3 : W3.heap[w2.heap.size]? = some (.cells #[.int .i64 x, .int .i64 y] 232 (0, 0)) := by rw [← hW3]; exact heap_alloc_new _ _
              have hm3 : Hid (Mod NoB w W3) := hide (by rw [← hW3]; exact hwm2.alloc _)
              have hws : w.heap.size ≤ w2.heap.size := hwm2.size
              have hbw : base ≤ w.heap.size := hC.out.size
              have hC3 := hC.out.keep hm3.out
              have hlow := hC3.low
              have hbcn := hC3.ne
              replace hW3 := hide hW3
              obtain ⟨sv, hcb, hown⟩ := hC3.cfg
              have hsn3 := hC3.seen
              have g0 := cell_of_block hsn3 1 (v := .bool (st.2 1)) rfl
              have g1 := frozen_of_block hsn3 1
              have hset : Mod (· = bn) W3 (W3.setCell ⟨bn, 1, none⟩ (.bool true)) := (Mod.refl _ _).set1 _ _
              obtain ⟨W4, hW4⟩ : ∃ W4, W3.setCell ⟨bn, 1, none⟩ (.bool true) = W4 := ⟨_, rfl⟩
              have hsn4 : W4.heap[bn]? = some (.cells (seenV (upd st.2 1 true)) 162 (0, 0)) := by rw [← hW4, heap_setCell_eq hsn3]; rfl
              rw [hW4] at hset
              have hcb4 := hset.heap hcb hbcn
              have hn4 := hset.heap hn3 (by omega)
              have c1 := cell_of_block hcb4 1 (v := .int .i64 st.1.q) rfl
              have c2 := cell_of_block hcb4 2 (v := .int .i64 st.1.l) rfl
              have c3 := cell_of_block hcb4 3 (v := .int .i64 st.1.m) rfl
              have c4 := cell_of_block hcb4 4 (v := .int .i64 st.1.d) rfl
              have c5 := cell_of_block hcb4 5 (v := .int .i64 st.1.s) rfl
              have f1 := frozen_of_block hcb4 1
              have f2 := frozen_of_block hcb4 2
              have f3 := frozen_of_block hcb4 3
              have f4 := frozen_of_block hcb4 4
              have f5 := frozen_of_block hcb4 5
              have n0 := cell_of_block hn4 0 (v := .int .i64 x) rfl
              have n1 := cell_of_block hn4 1 (v := .int .i64 y) rfl
              have hnb : ¬ w2.heap.size = bc := by omega
              have hset5 : Mod (· = bc) W4 (W4.setCell ⟨bc, 1, none⟩ (.int .i64 x)) := (Mod.refl _ _).set1 _ _
              have hRS : Hid (RS base bc bn (putF st.1 1 xs, upd st.2 1 true) (W4.setCell ⟨bc, 1, none⟩ (.int .i64 x))) := hide ⟨⟨sv, by rw [heap_setCell_eq hcb4]; rw [← hx]; rfl, ownsRow_mod (ownsRow_mod hown hset (fun b e => by omega)) hset5 (fun b e => by omega)⟩, hset5.heap hsn4 (fun e => hbcn e.symm), hlow, by have := hC3.size; have := hset.size; have := hset5.size; omega⟩
              have hmf : Hid (Mod (fun x => x = bc ∨ x = bn ∨ base ≤ x) w (W4.setCell ⟨bc, 1, none⟩ (.int .i64 x))) := hide (((hm3.out.mono (fun _ _ f => f.elim)).trans (hset.mono (fun x _ h => Or.inr (Or.inl h)))).trans (hset5.mono (fun x _ h => Or.inl h)))
              replace hx := hide hx
              replace hy := hide hy
              replace hn3 := hide hn3
              replace hn4 := hide hn4
              replace hsn3 := hide hsn3
              replace hsn4 := hide hsn4
              replace hcb := hide hcb
              replace hcb4 := hide hcb4
              replace hown := hide hown
              replace hset := hide hset
              replace hset5 := hide hset5
              replace hC3 := hide hC3
              cases hsn : st.2 1
              · have hend : Hid (lineR (s0 :: ns) st = (0, (putF st.1 1 xs, upd st.2 1 true))) := hide (by
                  rw [hlK.out, if_neg (by rw [h0]; simp), if_neg (by rw [hsn]; simp)]; rfl)
                replace h0 := hide h0
                clear hm2 hwm2
                go_upto_region 12 with (fail)
                rw [hW3.out]
                go_wp2
                go_ret
                exact ⟨⟨int_ret (congrArg Prod.fst hend.out).symm, fun _ => by rw [hend.out]; exact hRS.out⟩, hmf.out⟩
              · have hend : Hid ((lineR (s0 :: ns) st).1 = 12) := hide (by rw [hlK.out, if_neg (by rw [h0]; simp), if_pos ⟨hsn, by decide⟩])
                replace h0 := hide h0
                clear hm2 hwm2
                go_upto_region 12 with (fail)
                rw [hW3.out]
                go_wp2
                go_ret
                exact ⟨⟨int_ret hend.out.symm, fun h => by rw [hend.out] at h; simp at h⟩, hm3.out.mono (fun _ _ f => f.elim)⟩
            · have hnb : (ne != 0) = true := by simpa [bne_iff_ne] using h0
              have hend : Hid (lineR (s0 :: ns) st = (ne, st)) := hide (by rw [hlK.out, if_pos h0])
              have hfr : Hid (Mod NoB w w2) := hide ((hcl1.out.drewN _).trans hm2)
              clear hm2
              go_wp2
              go_ret
              refine ⟨⟨int_ret (congrArg Prod.fst hend.out).symm, fun h => ?_⟩, (hfr.out.alloc _).mono (fun _ _ f => f.elim)⟩
              rw [hend.out] at h
              exact absurd h h0
          · rw [if_pos rfl] at hl32
            go_wp2_with fail
            go_quiet (fail)
            go_wp2_with fail
            refine (hnw.out _ (by first | exact hcl1.out.drewN _ | exact hcl1.out.drew)).mono ?_
            rintro e w2 ⟨(⟨h0, rfl⟩ | ⟨h0, x', y', rfl⟩), hm2⟩
            · obtain ⟨x, hx⟩ : ∃ x, xs.getD 0 0 = x := ⟨_, rfl⟩
              obtain ⟨y, hy⟩ : ∃ y, xs.getD 1 0 = y := ⟨_, rfl⟩
              rw [hx, hy]
              have hwm2 : Mod NoB w w2 := ((hcl1.out.drewN _).trans hm2)
              obtain ⟨W3, hW3⟩ : ∃ W3, w2.alloc (.cells #[.int .i64 x, .int .i64 y] 232) = W3 := ⟨_, rfl⟩
              have hn3 : W3.heap[w2.heap.size]? = some (.cells #[.int .i64 x, .int .i64 y] 232 (0, 0)) := by rw [← hW3]; exact heap_alloc_new _ _
              have hm3 : Hid (Mod NoB w W3) := hide (by rw [← hW3]; exact hwm2.alloc _)
              have hws : w.heap.size ≤ w2.heap.size := hwm2.size
              have hbw : base ≤ w.heap.size := hC.out.size
              have hC3 := hC.out.keep hm3.out
              have hlow := hC3.low
              have hbcn := hC3.ne
              replace hW3 := hide hW3
              obtain ⟨sv, hcb, hown⟩ := hC3.cfg
              have hsn3 := hC3.seen
              have g0 := cell_of_block hsn3 2 (v := .bool (st.2 2)) rfl
              have g1 := frozen_of_block hsn3 2
              have hset : Mod (· = bn) W3 (W3.setCell ⟨bn, 2, none⟩ (.bool true)) := (Mod.refl _ _).set1 _ _
              obtain ⟨W4, hW4⟩ : ∃ W4, W3.setCell ⟨bn, 2, none⟩ (.bool true) = W4 := ⟨_, rfl⟩
              have hsn4 : W4.heap[bn]? = some (.cells (seenV (upd st.2 2 true)) 162 (0, 0)) := by rw [← hW4, heap_setCell_eq hsn3]; rfl
              rw [hW4] at hset
              have hcb4 := hset.heap hcb hbcn
              have hn4 := hset.heap hn3 (by omega)
              have c1 := cell_of_block hcb4 1 (v := .int .i64 st.1.q) rfl
              have c2 := cell_of_block hcb4 2 (v := .int .i64 st.1.l) rfl
              have c3 := cell_of_block hcb4 3 (v := .int .i64 st.1.m) rfl
              have c4 := cell_of_block hcb4 4 (v := .int .i64 st.1.d) rfl
              have c5 := cell_of_block hcb4 5 (v := .int .i64 st.1.s) rfl
              have f1 := frozen_of_block hcb4 1
              have f2 := frozen_of_block hcb4 2
              have f3 := frozen_of_block hcb4 3
              have f4 := frozen_of_block hcb4 4
              have f5 := frozen_of_block hcb4 5
              have n0 := cell_of_block hn4 0 (v := .int .i64 x) rfl
              have n1 := cell_of_block hn4 1 (v := .int .i64 y) rfl
              have hnb : ¬ w2.heap.size = bc := by omega
              have hset5 : Mod (· = bc) W4 ((W4.setCell ⟨bc, 2, none⟩ (.int .i64 x)).setCell ⟨bc, 3, none⟩ (.int .i64 y)) := ((Mod.refl _ _).set1 _ _).set1 _ _
              have hRS : Hid (RS base bc bn (putF st.1 2 xs, upd st.2 2 true) ((W4.setCell ⟨bc, 2, none⟩ (.int .i64 x)).setCell ⟨bc, 3, none⟩ (.int .i64 y))) := hide ⟨⟨sv, by rw [heap_setCell_eq (heap_setCell_eq hcb4 _)]; rw [← hx, ← hy]; rfl, ownsRow_mod (ownsRow_mod hown hset (fun b e => by omega)) hset5 (fun b e => by omega)⟩, hset5.heap hsn4 (fun e => hbcn e.symm), hlow, by have := hC3.size; have := hset.size; have := hset5.size; omega⟩
              have hmf : Hid (Mod (fun x => x = bc ∨ x = bn ∨ base ≤ x) w ((W4.setCell ⟨bc, 2, none⟩ (.int .i64 x)).setCell ⟨bc, 3, none⟩ (.int .i64 y))) := hide (((hm3.out.mono (fun _ _ f => f.elim)).trans (hset.mono (fun x _ h => Or.inr (Or.inl h)))).trans (hset5.mono (fun x _ h => Or.inl h)))
              replace hx := hide hx
              replace hy := hide hy
              replace hn3 := hide hn3
              replace hn4 := hide hn4
              replace hsn3 := hide hsn3
              replace hsn4 := hide hsn4
              replace hcb := hide hcb
              replace hcb4 := hide hcb4
              replace hown := hide hown
              replace hset := hide hset
              replace hset5 := hide hset5
              replace hC3 := hide hC3
              cases hsn : st.2 2
              · have hend : Hid (lineR (s0 :: ns) st = (0, (putF st.1 2 xs, upd st.2 2 true))) := hide (by
                  rw [hlK.out, if_neg (by rw [h0]; simp), if_neg (by rw [hsn]; simp)]; rfl)
                replace h0 := hide h0
                clear hm2 hwm2
                go_upto_region 12 with (fail)
                rw [hW3.out]
                go_wp2
                go_ret
                exact ⟨⟨int_ret (congrArg Prod.fst hend.out).symm, fun _ => by rw [hend.out]; exact hRS.out⟩, hmf.out⟩
              · have hend : Hid ((lineR (s0 :: ns) st).1 = 12) := hide (by rw [hlK.out, if_neg (by rw [h0]; simp), if_pos ⟨hsn, by decide⟩])
                replace h0 := hide h0
                clear hm2 hwm2
                go_upto_region 12 with (fail)
                rw [hW3.out]
                go_wp2
                go_ret
                exact ⟨⟨int_ret hend.out.symm, fun h => by rw [hend.out] at h; simp at h⟩, hm3.out.mono (fun _ _ f => f.elim)⟩
            · have hnb : (ne != 0) = true := by simpa [bne_iff_ne] using h0
              have hend : Hid (lineR (s0 :: ns) st = (ne, st)) := hide (by rw [hlK.out, if_pos h0])
              have hfr : Hid (Mod NoB w w2) := hide ((hcl1.out.drewN _).trans hm2)
              clear hm2
              go_wp2
              go_ret
              refine ⟨⟨int_ret (congrArg Prod.fst hend.out).symm, fun h => ?_⟩, (hfr.out.alloc _).mono (fun _ _ f => f.elim)⟩
              rw [hend.out] at h
              exact absurd h h0
          · rw [if_neg (by decide)] at hl32
            go_wp2_with fail
            go_quiet (fail)
            go_wp2_with fail
            refine (hnw.out _ (by first | exact hcl1.out.drewN _ | exact hcl1.out.drew)).mono ?_
            rintro e w2 ⟨(⟨h0, rfl⟩ | ⟨h0, x', y', rfl⟩), hm2⟩
            · obtain ⟨x, hx⟩ : ∃ x, xs.getD 0 0 = x := ⟨_, rfl⟩
              obtain ⟨y, hy⟩ : ∃ y, xs.getD 1 0 = y := ⟨_, rfl⟩
              rw [hx, hy]
              have hwm2 : Mod NoB w w2 := ((hcl1.out.drewN _).trans hm2)
              obtain ⟨W3, hW3⟩ : ∃ W3, w2.alloc (.cells #[.int .i64 x, .int .i64 y] 232) = W3 := ⟨_, rfl⟩
              have hn3 : W3.heap[w2.heap.size]? = some (.cells #[.int .i64 x, .int .i64 y] 232 (0, 0)) := by rw [← hW3]; exact heap_alloc_new _ _
              have hm3 : Hid (Mod NoB w W3) := hide (by rw [← hW3]; exact hwm2.alloc _)
              have hws : w.heap.size ≤ w2.heap.size := hwm2.size
              have hbw : base ≤ w.heap.size := hC.out.size
              have hC3 := hC.out.keep hm3.out
              have hlow := hC3.low
              have hbcn := hC3.ne
              replace hW3 := hide hW3
              obtain ⟨sv, hcb, hown⟩ := hC3.cfg
              have hsn3 := hC3.seen
              have g0 := cell_of_block hsn3 3 (v := .bool (st.2 3)) rfl
              have g1 := frozen_of_block hsn3 3
              have hset : Mod (· = bn) W3 (W3.setCell ⟨bn, 3, none⟩ (.bool true)) := (Mod.refl _ _).set1 _ _
              obtain ⟨W4, hW4⟩ : ∃ W4, W3.setCell ⟨bn, 3, none⟩ (.bool true) = W4 := ⟨_, rfl⟩
              have hsn4 : W4.heap[bn]? = some (.cells (seenV (upd st.2 3 true)) 162 (0, 0)) := by rw [← hW4, heap_setCell_eq hsn3]; rfl
              rw [hW4] at hset
              have hcb4 := hset.heap hcb hbcn
              have hn4 := hset.heap hn3 (by omega)
              have c1 := cell_of_block hcb4 1 (v := .int .i64 st.1.q) rfl
              have c2 := cell_of_block hcb4 2 (v := .int .i64 st.1.l) rfl
              have c3 := cell_of_block hcb4 3 (v := .int .i64 st.1.m) rfl
              have c4 := cell_of_block hcb4 4 (v := .int .i64 st.1.d) rfl
              have c5 := cell_of_block hcb4 5 (v := .int .i64 st.1.s) rfl
              have f1 := frozen_of_block hcb4 1
              have f2 := frozen_of_block hcb4 2
              have f3 := frozen_of_block hcb4 3
              have f4 := frozen_of_block hcb4 4
              have f5 := frozen_of_block hcb4 5
              have n0 := cell_of_block hn4 0 (v := .int .i64 x) rfl
              have n1 := cell_of_block hn4 1 (v := .int .i64 y) rfl
              have hnb : ¬ w2.heap.size = bc := by omega
              have hset5 : Mod (· = bc) W4 (W4.setCell ⟨bc, 4, none⟩ (.int .i64 x)) := (Mod.refl _ _).set1 _ _
              have hRS : Hid (RS base bc bn (putF st.1 3 xs, upd st.2 3 true) (W4.setCell ⟨bc, 4, none⟩ (.int .i64 x))) := hide ⟨⟨sv, by rw [heap_setCell_eq hcb4]; rw [← hx]; rfl, ownsRow_mod (ownsRow_mod hown hset (fun b e => by omega)) hset5 (fun b e => by omega)⟩, hset5.heap hsn4 (fun e => hbcn e.symm), hlow, by have := hC3.size; have := hset.size; have := hset5.size; omega⟩
              have hmf : Hid (Mod (fun x => x = bc ∨ x = bn ∨ base ≤ x) w (W4.setCell ⟨bc, 4, none⟩ (.int .i64 x))) := hide (((hm3.out.mono (fun _ _ f => f.elim)).trans (hset.mono (fun x _ h => Or.inr (Or.inl h)))).trans (hset5.mono (fun x _ h => Or.inl h)))
              replace hx := hide hx
              replace hy := hide hy
              replace hn3 := hide hn3
              replace hn4 := hide hn4
              replace hsn3 := hide hsn3
              replace hsn4 := hide hsn4
              replace hcb := hide hcb
              replace hcb4 := hide hcb4
              replace hown := hide hown
              replace hset := hide hset
              replace hset5 := hide hset5
              replace hC3 := hide hC3
              cases hsn : st.2 3
              · have hend : Hid (lineR (s0 :: ns) st = (0, (putF st.1 3 xs, upd st.2 3 true))) := hide (by
                  rw [hlK.out, if_neg (by rw [h0]; simp), if_neg (by rw [hsn]; simp)]; rfl)
                replace h0 := hide h0
                clear hm2 hwm2
                go_upto_region 12 with (fail)
                rw [hW3.out]
                go_wp2
                go_ret
                exact ⟨⟨int_ret (congrArg Prod.fst hend.out).symm, fun _ => by rw [hend.out]; exact hRS.out⟩, hmf.out⟩
              · have hend : Hid ((lineR (s0 :: ns) st).1 = 12) := hide (by rw [hlK.out, if_neg (by rw [h0]; simp), if_pos ⟨hsn, by decide⟩])
                replace h0 := hide h0
                clear hm2 hwm2
                go_upto_region 12 with (fail)
                rw [hW3.out]
                go_wp2
                go_ret
                exact ⟨⟨int_ret hend.out.symm, fun h => by rw [hend.out] at h; simp at h⟩, hm3.out.mono (fun _ _ f => f.elim)⟩
            · have hnb : (ne != 0) = true := by simpa [bne_iff_ne] using h0
              have hend : Hid (lineR (s0 :: ns) st = (ne, st)) := hide (by rw [hlK.out, if_pos h0])
              have hfr : Hid (Mod NoB w w2) := hide ((hcl1.out.drewN _).trans hm2)
              clear hm2
              go_wp2
              go_ret
              refine ⟨⟨int_ret (congrArg Prod.fst hend.out).symm, fun h => ?_⟩, (hfr.out.alloc _).mono (fun _ _ f => f.elim)⟩
              rw [hend.out] at h
              exact absurd h h0
          · rw [if_neg (by decide)] at hl32
            go_wp2_with fail
            go_quiet (fail)
            go_wp2_with fail
            refine (hnw.out _ (by first | exact hcl1.out.drewN _ | exact hcl1.out.drew)).mono ?_
            rintro e w2 ⟨(⟨h0, rfl⟩ | ⟨h0, x', y', rfl⟩), hm2⟩
            · obtain ⟨x, hx⟩ : ∃ x, xs.getD 0 0 = x := ⟨_, rfl⟩
              obtain ⟨y, hy⟩ : ∃ y, xs.getD 1 0 = y := ⟨_, rfl⟩
              rw [hx, hy]
              have hwm2 : Mod NoB w w2 := ((hcl1.out.drewN _).trans hm2)
              obtain ⟨W3, hW3⟩ : ∃ W3, w2.alloc (.cells #[.int .i64 x, .int .i64 y] 232) = W3 := ⟨_, rfl⟩
              have hn3 : W3.heap[w2.heap.size]? = some (.cells #[.int .i64 x, .int .i64 y] 232 (0, 0)) := by rw [← hW3]; exact heap_alloc_new _ _
              have hm3 : Hid (Mod NoB w W3) := hide (by rw [← hW3]; exact hwm2.alloc _)
              have hws : w.heap.size ≤ w2.heap.size := hwm2.size
              have hbw : base ≤ w.heap.size := hC.out.size
              have hC3 := hC.out.keep hm3.out
              have hlow := hC3.low
              have hbcn := hC3.ne
              replace hW3 := hide hW3
              obtain ⟨sv, hcb, hown⟩ := hC3.cfg
              have hsn3 := hC3.seen
              have g0 := cell_of_block hsn3 4 (v := .bool (st.2 4)) rfl
              have g1 := frozen_of_block hsn3 4
              have hset : Mod (· = bn) W3 (W3.setCell ⟨bn, 4, none⟩ (.bool true)) := (Mod.refl _ _).set1 _ _
              obtain ⟨W4, hW4⟩ : ∃ W4, W3.setCell ⟨bn, 4, none⟩ (.bool true) = W4 := ⟨_, rfl⟩
              have hsn4 : W4.heap[bn]? = some (.cells (seenV (upd st.2 4 true)) 162 (0, 0)) := by rw [← hW4, heap_setCell_eq hsn3]; rfl
              rw [hW4] at hset
              have hcb4 := hset.heap hcb hbcn
              have hn4 := hset.heap hn3 (by omega)
              have c1 := cell_of_block hcb4 1 (v := .int .i64 st.1.q) rfl
              have c2 := cell_of_block hcb4 2 (v := .int .i64 st.1.l) rfl
              have c3 := cell_of_block hcb4 3 (v := .int .i64 st.1.m) rfl
              have c4 := cell_of_block hcb4 4 (v := .int .i64 st.1.d) rfl
              have c5 := cell_of_block hcb4 5 (v := .int .i64 st.1.s) rfl
              have f1 := frozen_of_block hcb4 1
              have f2 := frozen_of_block hcb4 2
              have f3 := frozen_of_block hcb4 3
              have f4 := frozen_of_block hcb4 4
              have f5 := frozen_of_block hcb4 5
              have n0 := cell_of_block hn4 0 (v := .int .i64 x) rfl
              have n1 := cell_of_block hn4 1 (v := .int .i64 y) rfl
              have hnb : ¬ w2.heap.size = bc := by omega
              have hset5 : Mod (· = bc) W4 (W4.setCell ⟨bc, 5, none⟩ (.int .i64 x)) := (Mod.refl _ _).set1 _ _
              have hRS : Hid (RS base bc bn (putF st.1 4 xs, upd st.2 4 true) (W4.setCell ⟨bc, 5, none⟩ (.int .i64 x))) := hide ⟨⟨sv, by rw [heap_setCell_eq hcb4]; rw [← hx]; rfl, ownsRow_mod (ownsRow_mod hown hset (fun b e => by omega)) hset5 (fun b e => by omega)⟩, hset5.heap hsn4 (fun e => hbcn e.symm), hlow, by have := hC3.size; have := hset.size; have := hset5.size; omega⟩
              have hmf : Hid (Mod (fun x => x = bc ∨ x = bn ∨ base ≤ x) w (W4.setCell ⟨bc, 5, none⟩ (.int .i64 x))) := hide (((hm3.out.mono (fun _ _ f => f.elim)).trans (hset.mono (fun x _ h => Or.inr (Or.inl h)))).trans (hset5.mono (fun x _ h => Or.inl h)))
              replace hx := hide hx
              replace hy := hide hy
              replace hn3 := hide hn3
              replace hn4 := hide hn4
              replace hsn3 := hide hsn3
              replace hsn4 := hide hsn4
              replace hcb := hide hcb
              replace hcb4 := hide hcb4
              replace hown := hide hown
              replace hset := hide hset
              replace hset5 := hide hset5
              replace hC3 := hide hC3
              cases hsn : st.2 4
              · have hend : Hid (lineR (s0 :: ns) st = (0, (putF st.1 4 xs, upd st.2 4 true))) := hide (by
                  rw [hlK.out, if_neg (by rw [h0]; simp), if_neg (by rw [hsn]; simp)]; rfl)
                replace h0 := hide h0
                clear hm2 hwm2
                go_upto_region 12 with (fail)
                rw [hW3.out]
                go_wp2
                go_ret
                exact ⟨⟨int_ret (congrArg Prod.fst hend.out).symm, fun _ => by rw [hend.out]; exact hRS.out⟩, hmf.out⟩
              · have hend : Hid ((lineR (s0 :: ns) st).1 = 12) := hide (by rw [hlK.out, if_neg (by rw [h0]; simp), if_pos ⟨hsn, by decide⟩])
                replace h0 := hide h0
                clear hm2 hwm2
                go_upto_region 12 with (fail)
                rw [hW3.out]
                go_wp2
                go_ret
                exact ⟨⟨int_ret hend.out.symm, fun h => by rw [hend.out] at h; simp at h⟩, hm3.out.mono (fun _ _ f => f.elim)⟩
            · have hnb : (ne != 0) = true := by simpa [bne_iff_ne] using h0
              have hend : Hid (lineR (s0 :: ns) st = (ne, st)) := hide (by rw [hlK.out, if_pos h0])
              have hfr : Hid (Mod NoB w w2) := hide ((hcl1.out.drewN _).trans hm2)
              clear hm2
              go_wp2
              go_ret
              refine ⟨⟨int_ret (congrArg Prod.fst hend.out).symm, fun h => ?_⟩, (hfr.out.alloc _).mono (fun _ _ f => f.elim)⟩
              rw [hend.out] at h
              exact absurd h h0
        · have hend : Hid (lineR (s0 :: ns) st = (6, st)) := hide (by
            unfold lineR
            rw [hkx]
            show lineK k _ _ = _
            unfold lineK
            rw [if_pos (by simp; omega)])
          replace hno := hide hno
          replace hm := hide hm
          replace hcl1 := hide hcl1
          clear hkx hdx
          by_cases h2 : k = 2
          · subst h2
            have hl3 : ((ns.length : Int) + 1 != 3) = true := by rw [bne_iff_ne]; intro e; exact hf (by show _ = (2 : Int); omega)
            replace hks := hide hks
            clear hf
            go_wp2_with fail
            go_quiet (fail)
            go_wp2
            go_ret
            exact ⟨⟨int_ret (congrArg Prod.fst hend.out).symm, fun h => by rw [hend.out] at h; simp at h⟩, (hcl1.out.drewN _).mono (fun _ _ f => f.elim)⟩
          · have hkb : ((k : Int) == 2) = false := beq_eq_false_iff_ne.mpr (by omega)
            have hkc : ((k : Int) != 2) = true := by rw [bne_iff_ne]; omega
            have hmk : manyW k = 1 := by
              rcases bounds5 k hlt with rfl | rfl | rfl | rfl | rfl
              all_goals first | rfl | omega
            have hl3 : ((ns.length : Int) + 1 != 2) = true := by rw [bne_iff_ne]; intro e; exact hf (by rw [hmk]; omega)
            replace hks := hide hks
            clear hf hmk
            go_wp2_with fail
            go_quiet (fail)
            go_wp2
            go_ret
            exact ⟨⟨int_ret (congrArg Prod.fst hend.out).symm, fun h => by rw [hend.out] at h; simp at h⟩, (hcl1.out.drewN _).mono (fun _ _ f => f.elim)⟩
      · have hne : (keyW k == s0) = false := by simpa using hks
        have hno' : Hid (∀ j, j < k + 1 → keyW j ≠ s0) := hide (fun j hj => by
          by_cases h : j < k
          · exact hno j h
          · obtain rfl : j = k := by omega
            exact hks)
        replace hno := hide hno
        replace hm := hide hm
        replace hks := hide hks
        go_wp2_with fail
        go_quiet (fail)
        go_wp2_with fail
        go_roundw
        case rel => exact ⟨k + 1, by omega, by go_num, hno'.out, by first | exact hm.out.drewN _ | exact hm.out.drew⟩
        case measure => simp [intOf]; omega
    · obtain rfl : k = 5 := by omega
      have hend : Hid (lineR (s0 :: ns) st = (10, st)) := hide (by
        have hkx : keyOf ((s0 :: ns).getD 0 []) = none := keyOf_no hno
        unfold lineR
        rw [hkx])
      have hcl1 : Hid (Mod NoB w wr) := hide (hm1.out.trans hm)
      replace hno := hide hno
      replace hm := hide hm
      go_wp2_with fail
      go_quiet (fail)
      go_wp2
      go_ret
      exact ⟨⟨int_ret (congrArg Prod.fst hend.out).symm, fun h => by rw [hend.out] at h; simp at h⟩, (hcl1.out.drewN _).mono (fun _ _ f => f.elim)⟩
end Go.Proofs.YtkajhggdgpbfeaaGreatDoor

