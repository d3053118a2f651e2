/- conf.line, walked: its loop. -/
import Derived.Test.YtdcmjjinmnbaoaaDoorCfR
namespace Go.Proofs.YtdcmjjinmnbaoaaDoor
open Go.RowKit

abbrev cfgCells (v : Value) (a : Cfg) : Array Value := #[v, .int .i64 a.q, .int .i64 a.l, .int .i64 a.m, .int .i64 a.d, .int .i64 a.s]
theorem setF_put {k : Nat} (k0 : 0 < k) (k5 : k < 5) (xs : List Int) (v : Value) (a : Cfg) : setF (fieldsW k) xs (cfgCells v a) (fieldsW k).length = cfgCells v (putF a k xs) ∧ (putF a k xs).srv = a.srv := by
  rcases bounds5 k k5 with rfl | rfl | rfl | rfl | rfl
  · omega
  all_goals exact ⟨rfl, rfl⟩
theorem fields_at : ∀ k, k < 5 → ∀ i, i < (fieldsW k).length → (fieldsW k).getD i 0 < 6 := by decide

set_option maxRecDepth 100000 in
set_option maxHeartbeats 8000000 in
theorem line_long (base bc B0 bM : Nat) (b : Nat → Nat) (order : List Nat) (st : St) (s0 : List UInt8) (ns : List (List UInt8)) (g cap : Nat) (w : World) (hC : CM base bc B0 bM b order st w) (hw : WordsAt g (s0 :: ns) w) {k : Nat} (hk : keyOf s0 = some k) (hn : (ns.length : Int) = manyW k)
    (hcap : ns.length + 1 ≤ cap) (hcm : cap ≤ 9223372036854775807) (hlen : ∀ s ∈ ns, s.length ≤ 1000000) (hL : LaidN w) (h16 : st.1.srv.length ≤ 1000) :
    Calls Tryd.prog 22 #[.map (some bM), .slice (some ⟨g, 0, none⟩) (ns.length + 1) cap] w fun e w' => LineOut base bc B0 bM b order st (s0 :: ns) w e w' ∧ Mod (bc ≤ ·) w w' := by
  have hc := hw 0 s0 rfl
  obtain ⟨k5, hks⟩ := keyOf_some hk
  have hlk := look_word (w := w) k5 hC.map hC.all hks
  obtain ⟨f, hb⟩ := (hC.word k k5).at0 k5
  have hc0 := cell_of_block hb 0 (v := .int .i64 (manyW k)) rfl
  have hms := many_small k k5
  rw [← hn] at hc0 hms
  have hn1 : 1 ≤ ns.length := by omega
  have hn2 : ns.length ≤ 2 := by omega
  have hl0 : (0 : Int) < (ns.length : Int) + 1 := by omega
  have hl1 : (1 : Int) ≤ (cap : Int) := by omega
  have hl2 : (1 : Int) ≤ (ns.length : Int) + 1 := by omega
  have hne : (((ns.length : Int) + 1) != 1 + (ns.length : Int)) = false := by simp; omega
  have hcw := hide hw
  have hnum := fun (i : Nat) (s : List UInt8) (h : ns[i]? = some s) w' (h' : Mod NoB w w') => number_any s w' (hlen s (List.mem_of_getElem? h)) (hL.mod h')
  replace hnum := hide hnum
  replace hC := hide hC
  replace hb := hide hb
  replace hn := hide hn
  replace hks := hide hks
  replace hk := hide hk
  obtain ⟨i0, hi, hz0, hz1, hz2⟩ := info_parts infoInt
  replace hi := hide hi
  replace hz0 := hide hz0
  replace hz1 := hide hz1
  replace hz2 := hide hz2
  clear hms hw
  go_enter Tryd.func22, Tryd.ntmps22
  go_wp2_with fail
  go_loopw [7, 35] (fun v vi wr => ∃ i : Nat, i ≤ ns.length ∧ vi = .int .i64 i ∧ wr.ownsRow w.heap.size 3 1 v i ((numsV ns i).map (.int .i64)) ∧ (∀ j, j < i → (numR (ns.getD j [])).2 = 0) ∧ Mod NoB w wr) (fun _ vi _ => ns.length - (intOf vi).toNat)
  case atStart => exact ⟨0, by omega, rfl, World.ownsRow_nil _ _ _ _, by omega, Mod.refl _ _⟩
  case round =>
    obtain ⟨i, hil, rfl, hown, hz, hm⟩ := hrel
    obtain ⟨p, n, c, rfl⟩ := own_slice hown
    by_cases hlt : i < ns.length
    · obtain ⟨s, hs⟩ : ∃ s, ns[i]? = some s := ⟨ns[i], by simp [hlt]⟩
      have hcs : wr.cell? ⟨g, 1 + i, none⟩ = some (.string (bs s)) := hm.cellAt id (hcw.out (1 + i) s (by rw [Nat.add_comm]; simpa using hs))
      have hcall := hnum.out i s hs _ hm
      have hsn := hide (numsV_succ hs)
      have hnl := hide (numsV_len (ns := ns) (i := i) (by omega))
      have hgd : Hid (ns.getD i [] = s) := hide (by simp [List.getD, hs])
      obtain ⟨v, er, hr⟩ : ∃ v er, numR s = (v, er) := ⟨_, _, rfl⟩
      rw [hr] at hcall hsn
      replace hcall := hide hcall
      replace hr := hide hr
      replace hs := hide hs
      replace hm := hide hm
      replace hz := hide hz
      replace hown := hide hown
      have hi0 : (0 : Int) ≤ (i : Int) := by omega
      have hi1 : (i : Int) < (ns.length : Int) := by omega
      go_wp2_with fail
      refine hcall.out.mono ?_
      rintro e w2 ⟨rfl, hm2⟩
      replace hown := hide (ownsRow_mod hown.out hm2 (fun _ f => f.elim))
      replace hm := hide (hm.out.trans hm2)
      clear hm2
      have hlsz : w.heap.size ≤ w2.heap.size := hm.out.size
      by_cases he : er = 0
      · subst he
        have hz2' : Hid (∀ j, j < i + 1 → (numR (ns.getD j [])).2 = 0) := hide (by
          intro j hj
          by_cases hji : j < i
          · exact hz.out j hji
          · obtain rfl : j = i := by omega
            rw [hgd.out, hr.out])
        clear hcs
        go_wp2_with (refine wpList_append_own _ rfl (.tmp 47) (.tmp 49) 23 rfl w.heap.size 3 i0 (.int .i64 0) 1 8 Tryd.underlying23 hi.out hz0.out hz1.out hz2.out rfl (by decide) (.slice p n c) i _ rfl (ownsRow_mod (S := NoB) hown.out ((Mod.refl _ _).alloc _) (fun _ h => h.elim)) ⟨w2.heap.size, 0, none⟩ 1 1 [.int .i64 v] rfl rfl (cell_one_new _ _ _) (by intro u hu; simp at hu; subst hu; rfl) (by unfold maxLen; omega) (by omega) (by simp; omega) ?_; intro v' w5 hown' hgrow _)
        go_roundw
        case rel =>
          refine ⟨i + 1, by omega, by go_num, ?_, hz2'.out, (hm.out.alloc _).grown hgrow (own_ge hown.out)⟩
          rw [hsn.out]
          simpa using hown'
        case measure => simp [intOf]; omega
      · have heb : (er != 0) = true := by simpa [bne_iff_ne] using he
        have hend : Hid (lineR (s0 :: ns) st = (er, st)) := hide (by
          have hks : keyOf ((s0 :: ns).getD 0 []) = some k := hk.out
          have hd : (s0 :: ns).drop 1 = ns := rfl
          have hne : numsE ns = er := by
            have := numsE_at hz.out hlt (by rw [hgd.out, hr.out]; exact he)
            rw [this, hgd.out, hr.out]
          unfold lineR
          rw [hks]
          show lineK k _ _ = _
          unfold lineK
          rw [if_neg (by rw [← hn.out]; simp; omega), hd, if_pos (by rw [hne]; exact he), hne])
        go_wp2
        go_ret
        refine ⟨⟨int_ret (congrArg Prod.fst hend.out).symm, fun h => ?_, fun _ => hm.out.mono (fun _ _ f => f.elim)⟩, hm.out.mono (fun _ _ f => f.elim)⟩
        rw [hend.out] at h
        exact absurd h he
    · obtain rfl : i = ns.length := by omega
      have hnv : numsV ns ns.length = ns.map fun s => (numR s).1 := by unfold numsV; rw [List.take_length]
      have hlk2 : lineR (s0 :: ns) st = if st.2 k = true ∧ k ≠ 0 then (12, st) else takeR k (numsV ns ns.length) (st.1, upd st.2 k true) := by
        have hks : keyOf ((s0 :: ns).getD 0 []) = some k := hk.out
        have hd : (s0 :: ns).drop 1 = ns := rfl
        have hne : numsE ns = 0 := numsE_all hz
        unfold lineR
        rw [hks]
        show lineK k _ _ = _
        unfold lineK
        rw [if_neg (by rw [← hn.out]; simp; omega), hd, if_neg (by rw [hne]; simp), hnv]
      have hxl := numsV_len (ns := ns) (i := ns.length) (Nat.le_refl _)
      obtain ⟨xs, hxs⟩ : ∃ xs, numsV ns ns.length = xs := ⟨_, rfl⟩
      rw [hxs] at hown hlk2 hxl
      replace hlk2 := hide hlk2
      rw [← hxl] at hown
      obtain ⟨rfl, hints, hge⟩ := own_ints hown
      have hC2 := hC.out.keep hm
      have hset := hide (hC2.seen k5)
      have hlow := hC2.low
      have hahead := hC2.ahead.2.2 k k5
      have hbw := hC2.size
      have hk1 := hC2.word k k5
      obtain ⟨hkb, hk2⟩ := hk1
      have hmset : Hid (Mod (bc ≤ ·) w (wr.setCell ⟨b k, 2, none⟩ (.bool true))) := hide ((hm.mono (fun _ _ f => f.elim)).setCell (Or.inl (by show bc ≤ b k; omega)) _)
      have hmset2 : Hid (Mod (fun x => bc ≤ x ∧ x < base) w (wr.setCell ⟨b k, 2, none⟩ (.bool true))) := hide ((hm.mono (fun _ _ f => f.elim)).setCell (Or.inl ⟨by show bc ≤ b k; omega, hkb⟩) _)
      have hms2 : Hid (Mod (· = b k) wr (wr.setCell ⟨b k, 2, none⟩ (.bool true))) := hide ((Mod.refl _ _).set1 _ _)
      by_cases hk0 : k = 0
      · subst hk0
        rw [if_pos rfl] at hk2
        have e1 := cell_of_block hk2 1 (v := .bool true) rfl
        have e2 := cell_of_block hk2 2 (v := .bool (st.2 0)) rfl
        have e3 := cell_of_block hk2 3 (v := fServer B0) rfl
        have e4 := frozen_of_block hk2 2
        replace hk2 := hide hk2
        replace hm := hide hm
        replace hown := hide hown
        replace hxl := hide hxl
        replace hxs := hide hxs
        replace hnv := hide hnv
        replace hints := hide hints
        replace hz := hide hz
        replace hC2 := hide hC2
        have hbox : Hid ((wr.setCell ⟨b 0, 2, none⟩ (.bool true)).heap[B0]? = some (.cells #[at0c bc 0] 46 (0, 0))) := hide hset.out.box
        have hcfg : Hid (CfgAt base bc st.1 (wr.setCell ⟨b 0, 2, none⟩ (.bool true))) := hide hset.out.cfg
        have hx : Hid (∃ b' off, p = some ⟨b', off, none⟩ ∧ (wr.setCell ⟨b 0, 2, none⟩ (.bool true)).cell? ⟨b', off, none⟩ = some (.int .i64 (xs.getD 0 0))) := hide (by
          obtain ⟨b', off, q1, _, q3⟩ := (hints.out.mod hms2.out (fun b' off e => by have := hge b' off e; have := hm.out.size; have := hC.out.size; omega)) 0 (by rw [hxl.out]; omega)
          exact ⟨b', off, q1, q3⟩)
        have hrest := hide (fun (er : Int) (a : Cfg) (w' : World) (h : takeR 0 xs (st.1, upd st.2 0 true) = (er, (a, upd st.2 0 true))) => hlk2.out.trans ((if_neg (by simp)).trans h))
        have hfin : Hid (∀ w', Mod (fun x => x = bc ∨ base ≤ x) (wr.setCell ⟨b 0, 2, none⟩ (.bool true)) w' → Mod (bc ≤ ·) w w') := hide (fun w' h => hmset.out.trans (h.mono (fun x _ hx => by rcases hx with rfl | hx; exact Nat.le_refl _; show bc ≤ x; omega)))
        have hn0 : 0 < xs.length := by rw [hxl.out]; omega
        cases hsn : st.2 0
        all_goals
          go_wp2_with fail
          refine (server_any base bc B0 st.1 (xs.getD 0 0) p xs.length c hn0 _ hbox.out hcfg.out hx.out hlow.1 hlow.2.1 h16 (by simpa [World.setCell] using hbw)).mono ?_
          rintro e w6 ⟨ho, hm6⟩
          replace hm6 := hide hm6
          rcases ho with ⟨o1, rfl, o4⟩ | ⟨o1, o2, rfl, o4⟩ | ⟨o1, o2, rfl, o4⟩
          · have hend : Hid ((lineR (s0 :: ns) st).1 = 12) := hide (by rw [hrest.out 12 st.1 w6 (by unfold takeR; rw [if_pos rfl, if_pos o1])])
            replace o4 := hide o4
            clear o1
            go_wp2
            go_ret
            exact ⟨⟨int_ret hend.out.symm, fun h => by rw [hend.out] at h; simp at h, fun _ => hmset2.out.trans (o4.out.mono (fun _ _ f => f.elim))⟩, hfin.out _ hm6.out⟩
          · have hend : Hid ((lineR (s0 :: ns) st).1 = 11) := hide (by rw [hrest.out 11 st.1 w6 (by unfold takeR; rw [if_pos rfl, if_neg (by rw [o1]; simp), if_pos o2])])
            replace o4 := hide o4
            clear o1 o2
            go_wp2
            go_ret
            exact ⟨⟨int_ret hend.out.symm, fun h => by rw [hend.out] at h; simp at h, fun _ => hmset2.out.trans (o4.out.mono (fun _ _ f => f.elim))⟩, hfin.out _ hm6.out⟩
          · have hend : Hid (lineR (s0 :: ns) st = (0, ({ st.1 with srv := st.1.srv ++ [xs.getD 0 0] }, upd st.2 0 true))) := hide (hrest.out 0 _ w6 (by unfold takeR; rw [if_pos rfl, if_neg (by rw [o1]; simp), if_neg o2]))
            have hcm := hide (CM.put hset.out hm6.out o4)
            clear o1 o2 o4
            go_wp2
            go_ret
            exact ⟨⟨int_ret (congrArg Prod.fst hend.out).symm, fun _ => by rw [hend.out]; exact hcm.out, fun h => absurd (congrArg Prod.fst hend.out) h⟩, hfin.out _ hm6.out⟩
      · rw [if_neg hk0] at hk2
        obtain ⟨bl, ba, l1, l2, g1, g2, g3⟩ := hk2
        have e1 := cell_of_block g1 1 (v := .bool false) rfl
        have e2 := cell_of_block g1 2 (v := .bool (st.2 k)) rfl
        have e3 := cell_of_block g1 3 (v := fTake bl) rfl
        have e4 := frozen_of_block g1 2
        replace hm := hide hm
        replace hown := hide hown
        replace hxl := hide hxl
        replace hxs := hide hxs
        replace hnv := hide hnv
        replace hints := hide hints
        replace hz := hide hz
        replace hC2 := hide hC2
        replace g1 := hide g1
        replace g2 := hide g2
        replace g3 := hide g3
        cases hsn : st.2 k
        · obtain ⟨cv, hcb, hcown⟩ := hset.out.cfg
          have hfl : xs.length = (fieldsW k).length := by
            have := many_fields k k5 (by omega)
            have := hn.out
            rw [hxl.out]; omega
          have hg2 := hms2.out.heap g2.out (fun e => by have h2 := g2.out; rw [e, g1.out] at h2; simp at h2)
          have hg3 := hms2.out.heap g3.out (fun e => by have h2 := g3.out; rw [e, g1.out] at h2; simp at h2)
          have hints2 : IntsL (wr.setCell ⟨b k, 2, none⟩ (.bool true)) p xs := hints.out.mod hms2.out (fun b' off e => by have := hge b' off e; have := hm.out.size; have := hC.out.size; omega)
          have htake := take_any bc bl ba (fieldsW k) xs p c (cfgCells cv st.1) _ hg2 hg3 hcb hints2 hfl (fun i hi => fields_at k k5 i hi) (fun b' off e => by have := hge b' off e; have := hC.out.size; omega) (by have := many_fields k k5 (by omega); have := many_small k k5; omega)
          rw [(setF_put (by omega) k5 xs cv st.1).1] at htake
          have hend : Hid (lineR (s0 :: ns) st = (0, (putF st.1 k xs, upd st.2 k true))) := hide (by
            rw [hlk2.out, if_neg (by rw [hsn]; simp)]
            unfold takeR
            rw [if_neg hk0])
          have hsrv := hide (setF_put (by omega) k5 xs cv st.1).2
          replace htake := hide htake
          replace hcb := hide hcb
          replace hcown := hide hcown
          replace hg2 := hide hg2
          replace hg3 := hide hg3
          replace hints2 := hide hints2
          replace hfl := hide hfl
          go_wp2_with fail
          refine htake.out.mono ?_
          rintro e w6 ⟨rfl, hb6, hm6⟩
          have hc6 : Hid (CfgAt base bc (putF st.1 k xs) w6) := hide ⟨cv, hb6, by
            rw [hsrv.out]
            exact ownsRow_mod hcown.out hm6 (fun x e => by omega)⟩
          have hm6' : Hid (Mod (fun x => x = bc ∨ base ≤ x) (wr.setCell ⟨b k, 2, none⟩ (.bool true)) w6) := hide (hm6.mono (fun x _ h => Or.inl h))
          have hcm := hide (CM.put hset.out hm6'.out hc6.out)
          have hfin : Hid (Mod (bc ≤ ·) w w6) := hide (hmset.out.trans (hm6.mono (fun x _ h => by show bc ≤ x; omega)))
          clear hb6 hm6
          go_wp2
          go_ret
          exact ⟨⟨int_ret (congrArg Prod.fst hend.out).symm, fun _ => by rw [hend.out]; exact hcm.out, fun h => absurd (congrArg Prod.fst hend.out) h⟩, hfin.out⟩
        · have hend : Hid ((lineR (s0 :: ns) st).1 = 12) := hide (by rw [hlk2.out, if_pos ⟨hsn, hk0⟩])
          go_wp2
          go_ret
          exact ⟨⟨int_ret hend.out.symm, fun h => by rw [hend.out] at h; simp at h, fun _ => hm.out.mono (fun _ _ f => f.elim)⟩, hm.out.mono (fun _ _ f => f.elim)⟩
/-- conf.line. -/
theorem line_any (base bc B0 bM : Nat) (b : Nat → Nat) (order : List Nat) (st : St) (ws : List (List UInt8)) (g cap : Nat) (w : World) (hC : CM base bc B0 bM b order st w) (h0 : 0 < ws.length) (hw : WordsAt g ws w)
    (hcap : ws.length ≤ cap) (hcm : cap ≤ 9223372036854775807) (hwl : ws.length < 1000000) (hlen : ∀ s ∈ ws, s.length ≤ 1000000) (hL : LaidN w) (h16 : st.1.srv.length ≤ 1000) :
    Calls Tryd.prog 22 #[.map (some bM), .slice (some ⟨g, 0, none⟩) ws.length cap] w fun e w' => LineOut base bc B0 bM b order st ws w e w' ∧ Mod (bc ≤ ·) w w' := by
  cases hk : keyOf (ws.getD 0 []) with
  | none =>
    refine (line_none base bc B0 bM b order st ws g cap w hC h0 hw hk).mono ?_
    rintro e w' ⟨rfl, rfl⟩
    have hl : lineR ws st = (10, st) := by unfold lineR; rw [hk]
    exact ⟨⟨by rw [hl], fun h => by rw [hl] at h; simp at h, fun _ => Mod.refl _ _⟩, Mod.refl _ _⟩
  | some k =>
    by_cases hn : (ws.length : Int) = 1 + manyW k
    · obtain ⟨s0, ns, rfl⟩ : ∃ s0 ns, ws = s0 :: ns := by
        cases ws with
        | nil => simp at h0
        | cons s0 ns => exact ⟨s0, ns, rfl⟩
      exact line_long base bc B0 bM b order st s0 ns g cap w hC hw (by simpa using hk) (by simp at hn; omega) (by simpa using hcap) hcm (fun s hs => hlen s (by simp [hs])) hL h16
    · refine (line_form base bc B0 bM b order st ws g cap w hC h0 hw hk hwl hn).mono ?_
      rintro e w' ⟨rfl, rfl⟩
      have hl : lineR ws st = (6, st) := by
        unfold lineR
        rw [hk]
        show lineK k ws st = _
        unfold lineK
        rw [if_pos hn]
      exact ⟨⟨by rw [hl], fun h => by rw [hl] at h; simp at h, fun _ => Mod.refl _ _⟩, Mod.refl _ _⟩
end Go.Proofs.YtdcmjjinmnbaoaaDoor
