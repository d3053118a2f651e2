/- conf.line, walked: its loop. conf.Parse, walked. conf.Parse, walked: texts that are too long, or have a wrong line. A daemon asked: Config, Last (contracts). What keeps a daemon in its bounds: plain. daemon.hear (contract). -/
import Derived.Test.YtpjfiplejhbdfaaGreatDoorPUav
import Derived.Test.YtpjfiplejhbdfaaGreatDoorPUao
import Derived.Test.YtpjfiplejhbdfaaGreatDoorPUaq
namespace Go.Proofs.YtpjfiplejhbdfaaGreatDoor
open Go.RowKit

abbrev cfgCells (v : Value) (a : Cfg) : Array Value := #[v, .int .i64 a.q, .int .i64 a.l, .int .i64 a.m, .int .i64 a.d, .int .i64 a.s]
theorem setF_put {k : Nat} (k0 : 0 < k) (k5 : k < 5) (xs : List Int) (v : Value) (a : Cfg) : setF (fieldsW k) xs (cfgCells v a) (fieldsW k).length = cfgCells v (putF a k xs) ∧ (putF a k xs).srv = a.srv := by
  rcases bounds5 k k5 with rfl | rfl | rfl | rfl | rfl
  · omega
  all_goals exact ⟨rfl, rfl⟩
theorem fields_at : ∀ k, k < 5 → ∀ i, i < (fieldsW k).length → (fieldsW k).getD i 0 < 6 := by decide

set_option maxRecDepth 100000 in
set_option maxHeartbeats 8000000 in
theorem line_long (base bc B0 bM : Nat) (b : Nat → Nat) (order : List Nat) (st : St) (s0 : List UInt8) (ns : List (List UInt8)) (g cap : Nat) (w : World) (hC : CM base bc B0 bM b order st w) (hw : WordsAt g (s0 :: ns) w) {k : Nat} (hk : keyOf s0 = some k) (hn : (ns.length : Int) = manyW k)
    (hcap : ns.length + 1 ≤ cap) (hcm : cap ≤ 9223372036854775807) (hlen : ∀ s ∈ ns, s.length ≤ 1000000) (hL : LaidN w) (h16 : st.1.srv.length ≤ 1000) :
    Calls Tryz.prog 73 #[.map (some bM), .slice (some ⟨g, 0, none⟩) (ns.length + 1) cap] w fun e w' => LineOut base bc B0 bM b order st (s0 :: ns) w e w' ∧ Mod (bc ≤ ·) w w' := by
  have hc := hw 0 s0 rfl
  obtain ⟨k5, hks⟩ := keyOf_some hk
  have hlk := look_word (w := w) k5 hC.map hC.all hks
  obtain ⟨f, hb⟩ := (hC.word k k5).at0 k5
  have hc0 := cell_of_block hb 0 (v := .int .i64 (manyW k)) rfl
  have hms := many_small k k5
  rw [← hn] at hc0 hms
  have hn1 : 1 ≤ ns.length := by omega
  have hn2 : ns.length ≤ 2 := by omega
  have hl0 : (0 : Int) < (ns.length : Int) + 1 := by omega
  have hl1 : (1 : Int) ≤ (cap : Int) := by omega
  have hl2 : (1 : Int) ≤ (ns.length : Int) + 1 := by omega
  have hne : (((ns.length : Int) + 1) != 1 + (ns.length : Int)) = false := by simp; omega
  have hcw := hide hw
  have hnum := fun (i : Nat) (s : List UInt8) (h : ns[i]? = some s) w' (h' : Mod NoB w w') => number_any s w' (hlen s (List.mem_of_getElem? h)) (hL.mod h')
  replace hnum := hide hnum
  replace hC := hide hC
  replace hb := hide hb
  replace hn := hide hn
  replace hks := hide hks
  replace hk := hide hk
  obtain ⟨i0, hi, hz0, hz1, hz2⟩ := info_parts infoInt
  replace hi := hide hi
  replace hz0 := hide hz0
  replace hz1 := hide hz1
  replace hz2 := hide hz2
  clear hms hw
  go_enter Tryz.func73, Tryz.ntmps73
  go_wp2_with fail
  go_loopw [7, 35] (fun v vi wr => ∃ i : Nat, i ≤ ns.length ∧ vi = .int .i64 i ∧ wr.ownsRow w.heap.size 3 1 v i ((numsV ns i).map (.int .i64)) ∧ (∀ j, j < i → (numR (ns.getD j [])).2 = 0) ∧ Mod NoB w wr) (fun _ vi _ => ns.length - (intOf vi).toNat)
  case atStart => exact ⟨0, by omega, rfl, World.ownsRow_nil _ _ _ _, by omega, Mod.refl _ _⟩
  case round =>
    obtain ⟨i, hil, rfl, hown, hz, hm⟩ := hrel
    obtain ⟨p, n, c, rfl⟩ := own_slice hown
    by_cases hlt : i < ns.length
    · obtain ⟨s, hs⟩ : ∃ s, ns[i]? = some s := ⟨ns[i], by simp [hlt]⟩
      have hcs : wr.cell? ⟨g, 1 + i, none⟩ = some (.string (bs s)) := hm.cellAt id (hcw.out (1 + i) s (by rw [Nat.add_comm]; simpa using hs))
      have hcall := hnum.out i s hs _ hm
      have hsn := hide (numsV_succ hs)
      have hnl := hide (numsV_len (ns := ns) (i := i) (by omega))
      have hgd : Hid (ns.getD i [] = s) := hide (by simp [List.getD, hs])
      obtain ⟨v, er, hr⟩ : ∃ v er, numR s = (v, er) := ⟨_, _, rfl⟩
      rw [hr] at hcall hsn
      replace hcall := hide hcall
      replace hr := hide hr
      replace hs := hide hs
      replace hm := hide hm
      replace hz := hide hz
      replace hown := hide hown
      have hi0 : (0 : Int) ≤ (i : Int) := by omega
      have hi1 : (i : Int) < (ns.length : Int) := by omega
      go_wp2_with fail
      refine hcall.out.mono ?_
      rintro e w2 ⟨rfl, hm2⟩
      replace hown := hide (ownsRow_mod hown.out hm2 (fun _ f => f.elim))
      replace hm := hide (hm.out.trans hm2)
      clear hm2
      have hlsz : w.heap.size ≤ w2.heap.size := hm.out.size
      by_cases he : er = 0
      · subst he
        have hz2' : Hid (∀ j, j < i + 1 → (numR (ns.getD j [])).2 = 0) := hide (by
          intro j hj
          by_cases hji : j < i
          · exact hz.out j hji
          · obtain rfl : j = i := by omega
            rw [hgd.out, hr.out])
        clear hcs
        go_wp2_with (refine wpList_append_own _ rfl (.tmp 47) (.tmp 49) 29 rfl w.heap.size 3 i0 (.int .i64 0) 1 8 Tryz.underlying29 hi.out hz0.out hz1.out hz2.out rfl (by decide) (.slice p n c) i _ rfl (ownsRow_mod (S := NoB) hown.out ((Mod.refl _ _).alloc _) (fun _ h => h.elim)) ⟨w2.heap.size, 0, none⟩ 1 1 [.int .i64 v] rfl rfl (cell_one_new _ _ _) (by intro u hu; simp at hu; subst hu; rfl) (by unfold maxLen; omega) (by omega) (by simp; omega) ?_; intro v' w5 hown' hgrow _)
        go_roundw
        case rel =>
          refine ⟨i + 1, by omega, by go_num, ?_, hz2'.out, (hm.out.alloc _).grown hgrow (own_ge hown.out)⟩
          rw [hsn.out]
          simpa using hown'
        case measure => simp [intOf]; omega
      · have heb : (er != 0) = true := by simpa [bne_iff_ne] using he
        have hend : Hid (lineR (s0 :: ns) st = (er, st)) := hide (by
          have hks : keyOf ((s0 :: ns).getD 0 []) = some k := hk.out
          have hd : (s0 :: ns).drop 1 = ns := rfl
          have hne : numsE ns = er := by
            have := numsE_at hz.out hlt (by rw [hgd.out, hr.out]; exact he)
            rw [this, hgd.out, hr.out]
          unfold lineR
          rw [hks]
          show lineK k _ _ = _
          unfold lineK
          rw [if_neg (by rw [← hn.out]; simp; omega), hd, if_pos (by rw [hne]; exact he), hne])
        go_wp2
        go_ret
        refine ⟨⟨int_ret (congrArg Prod.fst hend.out).symm, fun h => ?_, fun _ => hm.out.mono (fun _ _ f => f.elim)⟩, hm.out.mono (fun _ _ f => f.elim)⟩
        rw [hend.out] at h
        exact absurd h he
    · obtain rfl : i = ns.length := by omega
      have hnv : numsV ns ns.length = ns.map fun s => (numR s).1 := by unfold numsV; rw [List.take_length]
      have hlk2 : lineR (s0 :: ns) st = if st.2 k = true ∧ k ≠ 0 then (12, st) else takeR k (numsV ns ns.length) (st.1, upd st.2 k true) := by
        have hks : keyOf ((s0 :: ns).getD 0 []) = some k := hk.out
        have hd : (s0 :: ns).drop 1 = ns := rfl
        have hne : numsE ns = 0 := numsE_all hz
        unfold lineR
        rw [hks]
        show lineK k _ _ = _
        unfold lineK
        rw [if_neg (by rw [← hn.out]; simp; omega), hd, if_neg (by rw [hne]; simp), hnv]
      have hxl := numsV_len (ns := ns) (i := ns.length) (Nat.le_refl _)
      obtain ⟨xs, hxs⟩ : ∃ xs, numsV ns ns.length = xs := ⟨_, rfl⟩
      rw [hxs] at hown hlk2 hxl
      replace hlk2 := hide hlk2
      rw [← hxl] at hown
      obtain ⟨rfl, hints, hge⟩ := own_ints hown
      have hC2 := hC.out.keep hm
      have hset := hide (hC2.seen k5)
      have hlow := hC2.low
      have hahead := hC2.ahead.2.2 k k5
      have hbw := hC2.size
      have hk1 := hC2.word k k5
      obtain ⟨hkb, hk2⟩ := hk1
      have hmset : Hid (Mod (bc ≤ ·) w (wr.setCell ⟨b k, 2, none⟩ (.bool true))) := hide ((hm.mono (fun _ _ f => f.elim)).setCell (Or.inl (by show bc ≤ b k; omega)) _)
      have hmset2 : Hid (Mod (fun x => bc ≤ x ∧ x < base) w (wr.setCell ⟨b k, 2, none⟩ (.bool true))) := hide ((hm.mono (fun _ _ f => f.elim)).setCell (Or.inl ⟨by show bc ≤ b k; omega, hkb⟩) _)
      have hms2 : Hid (Mod (· = b k) wr (wr.setCell ⟨b k, 2, none⟩ (.bool true))) := hide ((Mod.refl _ _).set1 _ _)
      by_cases hk0 : k = 0
      · subst hk0
        rw [if_pos rfl] at hk2
        have e1 := cell_of_block hk2 1 (v := .bool true) rfl
        have e2 := cell_of_block hk2 2 (v := .bool (st.2 0)) rfl
        have e3 := cell_of_block hk2 3 (v := fServer B0) rfl
        have e4 := frozen_of_block hk2 2
        replace hk2 := hide hk2
        replace hm := hide hm
        replace hown := hide hown
        replace hxl := hide hxl
        replace hxs := hide hxs
        replace hnv := hide hnv
        replace hints := hide hints
        replace hz := hide hz
        replace hC2 := hide hC2
        have hbox : Hid ((wr.setCell ⟨b 0, 2, none⟩ (.bool true)).heap[B0]? = some (.cells #[at0c bc 0] 144 (0, 0))) := hide hset.out.box
        have hcfg : Hid (CfgAt base bc st.1 (wr.setCell ⟨b 0, 2, none⟩ (.bool true))) := hide hset.out.cfg
        have hx : Hid (∃ b' off, p = some ⟨b', off, none⟩ ∧ (wr.setCell ⟨b 0, 2, none⟩ (.bool true)).cell? ⟨b', off, none⟩ = some (.int .i64 (xs.getD 0 0))) := hide (by
          obtain ⟨b', off, q1, _, q3⟩ := (hints.out.mod hms2.out (fun b' off e => by have := hge b' off e; have := hm.out.size; have := hC.out.size; omega)) 0 (by rw [hxl.out]; omega)
          exact ⟨b', off, q1, q3⟩)
        have hrest := hide (fun (er : Int) (a : Cfg) (w' : World) (h : takeR 0 xs (st.1, upd st.2 0 true) = (er, (a, upd st.2 0 true))) => hlk2.out.trans ((if_neg (by simp)).trans h))
        have hfin : Hid (∀ w', Mod (fun x => x = bc ∨ base ≤ x) (wr.setCell ⟨b 0, 2, none⟩ (.bool true)) w' → Mod (bc ≤ ·) w w') := hide (fun w' h => hmset.out.trans (h.mono (fun x _ hx => by rcases hx with rfl | hx; exact Nat.le_refl _; show bc ≤ x; omega)))
        have hn0 : 0 < xs.length := by rw [hxl.out]; omega
        cases hsn : st.2 0
        all_goals
          go_wp2_with fail
          refine (server_any base bc B0 st.1 (xs.getD 0 0) p xs.length c hn0 _ hbox.out hcfg.out hx.out hlow.1 hlow.2.1 h16 (by simpa [World.setCell] using hbw)).mono ?_
          rintro e w6 ⟨ho, hm6⟩
          replace hm6 := hide hm6
          rcases ho with ⟨o1, rfl, o4⟩ | ⟨o1, o2, rfl, o4⟩ | ⟨o1, o2, rfl, o4⟩
          · have hend : Hid ((lineR (s0 :: ns) st).1 = 12) := hide (by rw [hrest.out 12 st.1 w6 (by unfold takeR; rw [if_pos rfl, if_pos o1])])
            replace o4 := hide o4
            clear o1
            go_wp2
            go_ret
            exact ⟨⟨int_ret hend.out.symm, fun h => by rw [hend.out] at h; simp at h, fun _ => hmset2.out.trans (o4.out.mono (fun _ _ f => f.elim))⟩, hfin.out _ hm6.out⟩
          · have hend : Hid ((lineR (s0 :: ns) st).1 = 11) := hide (by rw [hrest.out 11 st.1 w6 (by unfold takeR; rw [if_pos rfl, if_neg (by rw [o1]; simp), if_pos o2])])
            replace o4 := hide o4
            clear o1 o2
            go_wp2
            go_ret
            exact ⟨⟨int_ret hend.out.symm, fun h => by rw [hend.out] at h; simp at h, fun _ => hmset2.out.trans (o4.out.mono (fun _ _ f => f.elim))⟩, hfin.out _ hm6.out⟩
          · have hend : Hid (lineR (s0 :: ns) st = (0, ({ st.1 with srv := st.1.srv ++ [xs.getD 0 0] }, upd st.2 0 true))) := hide (hrest.out 0 _ w6 (by unfold takeR; rw [if_pos rfl, if_neg (by rw [o1]; simp), if_neg o2]))
            have hcm := hide (CM.put hset.out hm6.out o4)
            clear o1 o2 o4
            go_wp2
            go_ret
            exact ⟨⟨int_ret (congrArg Prod.fst hend.out).symm, fun _ => by rw [hend.out]; exact hcm.out, fun h => absurd (congrArg Prod.fst hend.out) h⟩, hfin.out _ hm6.out⟩
      · rw [if_neg hk0] at hk2
        obtain ⟨bl, ba, l1, l2, g1, g2, g3⟩ := hk2
        have e1 := cell_of_block g1 1 (v := .bool false) rfl
        have e2 := cell_of_block g1 2 (v := .bool (st.2 k)) rfl
        have e3 := cell_of_block g1 3 (v := fTake bl) rfl
        have e4 := frozen_of_block g1 2
        replace hm := hide hm
        replace hown := hide hown
        replace hxl := hide hxl
        replace hxs := hide hxs
        replace hnv := hide hnv
        replace hints := hide hints
        replace hz := hide hz
        replace hC2 := hide hC2
        replace g1 := hide g1
        replace g2 := hide g2
        replace g3 := hide g3
        cases hsn : st.2 k
        · obtain ⟨cv, hcb, hcown⟩ := hset.out.cfg
          have hfl : xs.length = (fieldsW k).length := by
            have := many_fields k k5 (by omega)
            have := hn.out
            rw [hxl.out]; omega
          have hg2 := hms2.out.heap g2.out (fun e => by have h2 := g2.out; rw [e, g1.out] at h2; simp at h2)
          have hg3 := hms2.out.heap g3.out (fun e => by have h2 := g3.out; rw [e, g1.out] at h2; simp at h2)
          have hints2 : IntsL (wr.setCell ⟨b k, 2, none⟩ (.bool true)) p xs := hints.out.mod hms2.out (fun b' off e => by have := hge b' off e; have := hm.out.size; have := hC.out.size; omega)
          have htake := take_any bc bl ba (fieldsW k) xs p c (cfgCells cv st.1) _ hg2 hg3 hcb hints2 hfl (fun i hi => fields_at k k5 i hi) (fun b' off e => by have := hge b' off e; have := hC.out.size; omega) (by have := many_fields k k5 (by omega); have := many_small k k5; omega)
          rw [(setF_put (by omega) k5 xs cv st.1).1] at htake
          have hend : Hid (lineR (s0 :: ns) st = (0, (putF st.1 k xs, upd st.2 k true))) := hide (by
            rw [hlk2.out, if_neg (by rw [hsn]; simp)]
            unfold takeR
            rw [if_neg hk0])
          have hsrv := hide (setF_put (by omega) k5 xs cv st.1).2
          replace htake := hide htake
          replace hcb := hide hcb
          replace hcown := hide hcown
          replace hg2 := hide hg2
          replace hg3 := hide hg3
          replace hints2 := hide hints2
          replace hfl := hide hfl
          go_wp2_with fail
          refine htake.out.mono ?_
          rintro e w6 ⟨rfl, hb6, hm6⟩
          have hc6 : Hid (CfgAt base bc (putF st.1 k xs) w6) := hide ⟨cv, hb6, by
            rw [hsrv.out]
            exact ownsRow_mod hcown.out hm6 (fun x e => by omega)⟩
          have hm6' : Hid (Mod (fun x => x = bc ∨ base ≤ x) (wr.setCell ⟨b k, 2, none⟩ (.bool true)) w6) := hide (hm6.mono (fun x _ h => Or.inl h))
          have hcm := hide (CM.put hset.out hm6'.out hc6.out)
          have hfin : Hid (Mod (bc ≤ ·) w w6) := hide (hmset.out.trans (hm6.mono (fun x _ h => by show bc ≤ x; omega)))
          clear hb6 hm6
          go_wp2
          go_ret
          exact ⟨⟨int_ret (congrArg Prod.fst hend.out).symm, fun _ => by rw [hend.out]; exact hcm.out, fun h => absurd (congrArg Prod.fst hend.out) h⟩, hfin.out⟩
        · have hend : Hid ((lineR (s0 :: ns) st).1 = 12) := hide (by rw [hlk2.out, if_pos ⟨hsn, hk0⟩])
          go_wp2
          go_ret
          exact ⟨⟨int_ret hend.out.symm, fun h => by rw [hend.out] at h; simp at h, fun _ => hm.out.mono (fun _ _ f => f.elim)⟩, hm.out.mono (fun _ _ f => f.elim)⟩
/-- conf.line. -/
theorem line_any (base bc B0 bM : Nat) (b : Nat → Nat) (order : List Nat) (st : St) (ws : List (List UInt8)) (g cap : Nat) (w : World) (hC : CM base bc B0 bM b order st w) (h0 : 0 < ws.length) (hw : WordsAt g ws w)
    (hcap : ws.length ≤ cap) (hcm : cap ≤ 9223372036854775807) (hwl : ws.length < 1000000) (hlen : ∀ s ∈ ws, s.length ≤ 1000000) (hL : LaidN w) (h16 : st.1.srv.length ≤ 1000) :
    Calls Tryz.prog 73 #[.map (some bM), .slice (some ⟨g, 0, none⟩) ws.length cap] w fun e w' => LineOut base bc B0 bM b order st ws w e w' ∧ Mod (bc ≤ ·) w w' := by
  cases hk : keyOf (ws.getD 0 []) with
  | none =>
    refine (line_none base bc B0 bM b order st ws g cap w hC h0 hw hk).mono ?_
    rintro e w' ⟨rfl, rfl⟩
    have hl : lineR ws st = (10, st) := by unfold lineR; rw [hk]
    exact ⟨⟨by rw [hl], fun h => by rw [hl] at h; simp at h, fun _ => Mod.refl _ _⟩, Mod.refl _ _⟩
  | some k =>
    by_cases hn : (ws.length : Int) = 1 + manyW k
    · obtain ⟨s0, ns, rfl⟩ : ∃ s0 ns, ws = s0 :: ns := by
        cases ws with
        | nil => simp at h0
        | cons s0 ns => exact ⟨s0, ns, rfl⟩
      exact line_long base bc B0 bM b order st s0 ns g cap w hC hw (by simpa using hk) (by simp at hn; omega) (by simpa using hcap) hcm (fun s hs => hlen s (by simp [hs])) hL h16
    · refine (line_form base bc B0 bM b order st ws g cap w hC h0 hw hk hwl hn).mono ?_
      rintro e w' ⟨rfl, rfl⟩
      have hl : lineR ws st = (6, st) := by
        unfold lineR
        rw [hk]
        show lineK k ws st = _
        unfold lineK
        rw [if_pos hn]
      exact ⟨⟨by rw [hl], fun h => by rw [hl] at h; simp at h, fun _ => Mod.refl _ _⟩, Mod.refl _ _⟩
end Go.Proofs.YtpjfiplejhbdfaaGreatDoor

namespace Go.Proofs.YtpjfiplejhbdfaaGreatDoor
open Go.RowKit

theorem fieldsGo_len : ∀ (l cur : List UInt8), ∀ x ∈ Lib.fieldsGo cur l, x.length ≤ cur.length + l.length := by
  intro l
  induction l with
  | nil =>
    intro cur x hx
    rw [go_end] at hx
    split at hx
    · cases hx
    · simp at hx; subst hx; simp
  | cons b l ih =>
    intro cur x hx
    cases hb : Lib.isSp b with
    | true =>
      rw [go_sp hb] at hx
      rcases List.mem_append.1 hx with h | h
      · split at h
        · cases h
        · simp at h; subst h; simp
      · have := ih [] x h
        simp at this ⊢; omega
    | false =>
      rw [go_on hb] at hx
      have := ih (cur ++ [b]) x hx
      simp at this ⊢; omega
theorem words_each (l : List UInt8) (k : Nat) : ∀ s ∈ wordsOf l k, s.length ≤ l.length := by
  intro s hs
  have := fieldsGo_len (bare l k) [] s hs
  have h2 : (bare l k).length ≤ l.length := Nat.le_trans (upTo_le _ _) (Nat.le_trans (upTo_le _ _) (rest_len 10 l k))
  simp at this; omega
/-- What each line of a text is. -/
theorem linesTo_each (l : List UInt8) (k : Nat) : ∀ x ∈ linesTo l k, x.1 ≤ k ∧ 0 < x.2.length ∧ x.2.length ≤ l.length ∧ ∀ s ∈ x.2, s.length ≤ l.length := by
  induction k with
  | zero => intro x hx; cases hx
  | succ k ih =>
    intro x hx
    unfold linesTo at hx
    rcases List.mem_append.mp hx with h | h
    · obtain ⟨a, b⟩ := ih x h
      exact ⟨by omega, b⟩
    · split at h
      · rename_i h0
        simp at h; subst h; exact ⟨Nat.le_refl _, h0, words_len l k, words_each l k⟩
      · cases h
theorem take_srv {k : Nat} {xs : List Int} {st : St} (h : (takeR k xs st).1 = 0) (h16 : st.1.srv.length ≤ 16) : (takeR k xs st).2.1.srv.length ≤ 16 := by
  unfold takeR at h ⊢
  split
  · rename_i hk
    rw [if_pos hk] at h
    split
    · rename_i h2; rw [if_pos h2] at h; simp at h
    · rename_i h2
      rw [if_neg h2] at h
      split
      · rename_i h3; rw [if_pos h3] at h; simp at h
      · simp; omega
  · rename_i hk
    show (putF st.1 k xs).srv.length ≤ 16
    unfold putF
    split <;> exact h16
theorem line_srv {ws : List (List UInt8)} {st : St} (h : (lineR ws st).1 = 0) (h16 : st.1.srv.length ≤ 16) : (lineR ws st).2.1.srv.length ≤ 16 := by
  unfold lineR at h ⊢
  cases hk : keyOf (ws.getD 0 []) with
  | none => rw [hk] at h; simp at h
  | some k =>
    rw [hk] at h
    change (lineK k ws st).1 = 0 at h
    show (lineK k ws st).2.1.srv.length ≤ 16
    unfold lineK at h ⊢
    split
    · exact h16
    · rename_i h1
      rw [if_neg h1] at h
      split
      · exact h16
      · rename_i h2
        rw [if_neg h2] at h
        split
        · exact h16
        · rename_i h3
          rw [if_neg h3] at h
          exact take_srv h h16

/-- How a text's parse ends. -/
def ParseOut (r : Cfg × Int × Int) (w : World) (e : Ending) (w' : World) : Prop :=
  ∃ p c, e = .returned (.tuple #[r.1.val p c, .int .i64 r.2.1, .int .i64 r.2.2]) ∧ IntsL w' p r.1.srv ∧ r.1.srv.length ≤ c ∧ (∀ b off, p = some ⟨b, off, none⟩ → w.heap.size ≤ b) ∧ r.1.srv.length ≤ 16

theorem ParseOut.err {at_ er : Int} {w w' : World} : ParseOut (cfg0, at_, er) w (.returned (.tuple #[.agg #[.slice none 0 0, .int .i64 0, .int .i64 0, .int .i64 0, .int .i64 0, .int .i64 0], .int .i64 at_, .int .i64 er])) w' :=
  ⟨none, 0, rfl, fun j hj => by simp [cfg0] at hj, by simp [cfg0], (fun b off e => by cases e), by simp [cfg0]⟩
end Go.Proofs.YtpjfiplejhbdfaaGreatDoor

namespace Go.Proofs.YtpjfiplejhbdfaaGreatDoor
open Go.RowKit

theorem tabs_of {w : World} (hL : LaidN w) : ∀ x, Mod NoB w x → Lib.TabIs Tryz.prog x "strings.asciiSpace" .u8 Lib.asciiSpaceTab := fun _ hm => hL.s.mod hm

theorem set6 {W : World} {B : Nat} {x0 x1 x2 x3 x4 x5 : Value} {T : TypeId} (h : W.heap[B]? = some (.cells #[x0, x1, x2, x3, x4, x5] T (0, 0))) (y0 y1 y2 y3 y4 y5 : Value) :
    ∃ W6, (((((W.setCell ⟨B, 0, none⟩ y0).setCell ⟨B, 1, none⟩ y1).setCell ⟨B, 2, none⟩ y2).setCell ⟨B, 3, none⟩ y3).setCell ⟨B, 4, none⟩ y4).setCell ⟨B, 5, none⟩ y5 = W6 ∧ W6.heap[B]? = some (.cells #[y0, y1, y2, y3, y4, y5] T (0, 0)) ∧ Mod (· = B) W W6 := by
  refine ⟨_, rfl, ?_, (((((Mod.refl _ _).set1 _ _).set1 _ _).set1 _ _).set1 _ _).set1 _ _ |>.set1 _ _⟩
  have h1 := heap_setCell_eq (o := 0) h y0
  have h2 := heap_setCell_eq (o := 1) h1 y1
  have h3 := heap_setCell_eq (o := 2) h2 y2
  have h4 := heap_setCell_eq (o := 3) h3 y3
  have h5 := heap_setCell_eq (o := 4) h4 y4
  have h6 := heap_setCell_eq (o := 5) h5 y5
  rw [h6]
  rfl

/-- The variable of the result, six cells of it. -/
structure Six (W : World) (B : Nat) (x0 x1 x2 x3 x4 x5 : Value) : Prop where
  b0 : W.cell? ⟨B, 0, none⟩ = some x0
  b1 : W.cell? ⟨B, 1, none⟩ = some x1
  b2 : W.cell? ⟨B, 2, none⟩ = some x2
  b3 : W.cell? ⟨B, 3, none⟩ = some x3
  b4 : W.cell? ⟨B, 4, none⟩ = some x4
  b5 : W.cell? ⟨B, 5, none⟩ = some x5
  f0 : W.frozen? ⟨B, 0, none⟩ = false
  f1 : W.frozen? ⟨B, 1, none⟩ = false
  f2 : W.frozen? ⟨B, 2, none⟩ = false
  f3 : W.frozen? ⟨B, 3, none⟩ = false
  f4 : W.frozen? ⟨B, 4, none⟩ = false
  f5 : W.frozen? ⟨B, 5, none⟩ = false
theorem six_of {W : World} {B : Nat} {x0 x1 x2 x3 x4 x5 : Value} {T : TypeId} (h : W.heap[B]? = some (.cells #[x0, x1, x2, x3, x4, x5] T (0, 0))) : Six W B x0 x1 x2 x3 x4 x5 :=
  ⟨cell_of_block h 0 rfl, cell_of_block h 1 rfl, cell_of_block h 2 rfl, cell_of_block h 3 rfl, cell_of_block h 4 rfl, cell_of_block h 5 rfl, frozen_of_block h 0, frozen_of_block h 1, frozen_of_block h 2, frozen_of_block h 3, frozen_of_block h 4, frozen_of_block h 5⟩

set_option maxRecDepth 100000 in
set_option maxHeartbeats 4000000 in
theorem parse_long (l : List UInt8) (hl : 65536 < l.length) (h2 : l.length ≤ 9223372036854775807) (w : World) :
    Calls Tryz.prog 35 #[.string (bs l)] w fun e w' => ParseOut (parseR l) w e w' ∧ Mod NoB w w' := by
  have hr := parseR_long hl
  have hlines := lines_long l hl h2
  rw [hr]
  clear hr
  replace hlines := hide hlines
  go_enter Tryz.func35, Tryz.ntmps35
  go_wp2_with fail
  refine (hlines.out _).mono ?_
  rintro e w1 ⟨rfl, hm⟩
  have hm1 : Hid (Mod NoB w w1) := hide (((Mod.refl _ _).alloc _).trans hm)
  have hb : w1.heap[w.heap.size]? = some (.cells #[.slice none 0 0, .int .i64 0, .int .i64 0, .int .i64 0, .int .i64 0, .int .i64 0] 31 (0, 0)) := hm.heap (heap_alloc_new _ _) id
  clear hm
  obtain ⟨b0, b1, b2, b3, b4, b5, f0, f1, f2, f3, f4, f5⟩ := six_of hb
  obtain ⟨W6, hW6, hb6, hm6⟩ := set6 hb (.slice none 0 0) (.int .i64 0) (.int .i64 0) (.int .i64 0) (.int .i64 0) (.int .i64 0)
  replace hW6 := hide hW6
  replace hb6 := hide hb6
  replace hb := hide hb
  have hmf : Hid (Mod NoB w W6) := hide (hm1.out.into hm6 (fun b e => Or.inr (by omega)))
  clear hm6
  go_wp2
  rw [hW6.out]
  clear b0 b1 b2 b3 b4 b5 f0 f1 f2 f3 f4 f5
  obtain ⟨b0, b1, b2, b3, b4, b5, -⟩ := six_of hb6.out
  refine bodyPost_ret (v := .tuple #[.agg #[.slice none 0 0, .int .i64 0, .int .i64 0, .int .i64 0, .int .i64 0, .int .i64 0], .int .i64 0, .int .i64 7]) (by simp [results, Tryz.results35, go_sem, b0, b1, b2, b3, b4, b5]) rfl ⟨.err, hmf.out⟩
end Go.Proofs.YtpjfiplejhbdfaaGreatDoor

namespace Go.Proofs.YtpjfiplejhbdfaaGreatDoor
set_option linter.unusedSimpArgs false
open Go.RowKit

theorem iclone_any (p : Option Addr) (c : Nat) (l : List Int) (h0 : 0 < l.length) (hl : l.length ≤ 1000) (w : World) (hi : IntsL w p l) :
    Calls Tryz.prog 43 #[.slice p l.length c] w fun e w' => ∃ v, e = .returned v ∧ w'.ownsRow w.heap.size 3 1 v l.length (l.map (Value.int .i64)) ∧ Mod NoB w w' := by
  obtain ⟨g, off, rfl, _, _⟩ := hi 0 h0
  refine (Tryz.slices_Clone_int g off l.length c l w (Nat.le_refl _) (by omega) (fun j hj => ?_)).mono ?_
  · obtain ⟨g', off', h1, _, h2⟩ := hi j hj
    cases h1
    exact h2
  · rintro e w' ⟨v, rfl, hown, _, hb⟩
    rw [List.take_length] at hown
    exact ⟨v, rfl, hown, Below.mod hb⟩
set_option maxHeartbeats 4000000 in
theorem dconfig_any (P : DPl) (d : DaemonS) (h0 : 0 < d.c.srv.length) (hl : d.c.srv.length ≤ 1000) (w : World) (hd : DO w P d) :
    Calls Tryz.prog 12 #[at0 P.b] w fun e w' => ∃ v, e = .returned (.agg #[v, .int .i64 d.c.q, .int .i64 d.c.l, .int .i64 d.c.m, .int .i64 d.c.d, .int .i64 d.c.s]) ∧
      w'.ownsRow w.heap.size 3 1 v d.c.srv.length (d.c.srv.map (Value.int .i64)) ∧ Mod NoB w w' := by
  have k0 := cell_of_block hd.blk 0 rfl
  have k1 := cell_of_block hd.blk 1 rfl
  have k2 := cell_of_block hd.blk 2 rfl
  have k3 := cell_of_block hd.blk 3 rfl
  have k4 := cell_of_block hd.blk 4 rfl
  have k5 := cell_of_block hd.blk 5 rfl
  have hlt := lt_of_block hd.blk
  have hc := fun w2 (hm : Mod NoB w w2) => iclone_any P.sp P.sc d.c.srv h0 hl w2 (hd.srv.mod0 hm)
  clear hd
  replace hc := hide hc
  go_enter Tryz.func12, Tryz.ntmps12
  go_wp2_with fail
  refine (hc.out _ (((Mod.refl _ _).alloc _).alloc _)).mono ?_
  rintro e w2 ⟨v, rfl, hown, hm⟩
  obtain ⟨va, vc, hv⟩ := own_value hown
  subst hv
  have hr := hm.heap (heap_alloc_old (by simp) _ |>.trans (heap_alloc_new w (.cells #[.slice none 0 0, .int .i64 0, .int .i64 0, .int .i64 0, .int .i64 0, .int .i64 0] 31))) id
  have hx := hm.heap (heap_alloc_new (w.alloc (.cells #[.slice none 0 0, .int .i64 0, .int .i64 0, .int .i64 0, .int .i64 0, .int .i64 0] 31)) (.cells #[.slice P.sp d.c.srv.length P.sc, .int .i64 d.c.q, .int .i64 d.c.l, .int .i64 d.c.m, .int .i64 d.c.d, .int .i64 d.c.s] 31)) id
  rw [World.size_alloc] at hx
  have hm2 : Mod NoB w w2 := (((Mod.refl _ _).alloc _).alloc _).trans hm
  have hown2 : w2.ownsRow w.heap.size 3 1 (.slice va d.c.srv.length vc) d.c.srv.length (d.c.srv.map (Value.int .i64)) := by
    refine ⟨hown.1, ?_⟩
    rcases hown.2 with h | ⟨g, cap, cur, e1, e2, e3⟩
    · exact Or.inl h
    · exact Or.inr ⟨g, cap, cur, e1, by simp at e2; omega, e3⟩
  have hgv : ∀ g, (Value.slice va d.c.srv.length vc).ownBlock = some g → w.heap.size + 2 ≤ g := by
    intro g hg
    rcases hown.2 with ⟨h, _⟩ | ⟨g', cap, cur, e1, e2, e3⟩
    · rw [h] at hg; cases hg
    · rw [e1] at hg; cases hg; simpa using e2
  clear hown hm k0 k1 k2 k3 k4 k5
  generalize hA : w.heap.size = A at *
  obtain ⟨x0, x1, x2, x3, x4, x5, xf0, xf1, xf2, xf3, xf4, xf5⟩ := six_of hx
  obtain ⟨r0, r1, r2, r3, r4, r5, rf0, rf1, rf2, rf3, rf4, rf5⟩ := six_of hr
  have hxs := heap_setCell_eq hx (o := 0) (.slice va d.c.srv.length vc)
  have hmx : Mod (· = A + 1) w2 (w2.setCell ⟨A + 1, 0, none⟩ (.slice va d.c.srv.length vc)) := (Mod.refl _ _).set1 _ _
  have hrs := hmx.heap hr (by omega)
  obtain ⟨W6, hW6, hb6, hm6⟩ := set6 hrs (.slice va d.c.srv.length vc) (.int .i64 d.c.q) (.int .i64 d.c.l) (.int .i64 d.c.m) (.int .i64 d.c.d) (.int .i64 d.c.s)
  have hmf : Mod NoB w W6 := (hm2.into hmx (fun k hk => Or.inr (by omega))).into hm6 (fun k hk => Or.inr (by omega))
  have hof := ownsRow_mod2 (ownsRow_mod2 hown2 hmx (fun g hg => by have := hgv g hg; omega)) hm6 (fun g hg => by have := hgv g hg; omega)
  have b0 := cell_of_block hb6 0 rfl
  have b1 := cell_of_block hb6 1 rfl
  have b2 := cell_of_block hb6 2 rfl
  have b3 := cell_of_block hb6 3 rfl
  have b4 := cell_of_block hb6 4 rfl
  have b5 := cell_of_block hb6 5 rfl
  replace hW6 := hide hW6
  replace hof := hide hof
  replace hmf := hide hmf
  replace hb6 := hide hb6
  replace hm6 := hide hm6
  replace hrs := hide hrs
  replace hxs := hide hxs
  replace hr := hide hr
  replace hx := hide hx
  replace hm2 := hide hm2
  replace hmx := hide hmx
  replace hown2 := hide hown2
  clear hgv
  go_wp2_with fail
  rw [hW6.out]
  exact bodyPost_ret (v := .agg #[.slice va d.c.srv.length vc, .int .i64 d.c.q, .int .i64 d.c.l, .int .i64 d.c.m, .int .i64 d.c.d, .int .i64 d.c.s]) (by simp [results, Tryz.results12, go_sem, b0, b1, b2, b3, b4, b5]) rfl ⟨_, rfl, by rw [hA]; exact hof.out, hmf.out⟩
end Go.Proofs.YtpjfiplejhbdfaaGreatDoor

namespace Go.Proofs.YtpjfiplejhbdfaaGreatDoor
set_option linter.unusedSimpArgs false
open Go.RowKit

/-- A peer in its bounds. -/
def PeerS.Fit (p : PeerS) : Prop := p.Ok ∧ I64 p.clock ∧ p.cookie < 18446744073709551616
theorem PeerS.Fit.late {p : PeerS} (hp : p.Fit) (h : Int) : (p.late h).Fit := by
  refine ⟨hp.1.late h, ?_⟩
  unfold PeerS.late
  split <;> exact hp.2
theorem PeerS.Fit.ask {p q : PeerS} (hp : p.Fit) {h clock : Int} {cookie : Nat} (h0 : 0 ≤ h) (h1 : h ≤ maxHard) (hc : I64 clock) (hk : cookie < 18446744073709551616) (hq : p.ask h clock cookie = some q) : q.Fit := by
  unfold PeerS.ask at hq
  split at hq
  · cases hq
    obtain ⟨⟨a1, a2, a3, a4, a5, a6, a7, a8, a9, a10, a11, a12⟩, _, _⟩ := hp
    exact ⟨by constructor <;> simp only [] <;> assumption, hc, hk⟩
  · cases hq
theorem PeerS.Fit.answer {p : PeerS} (hp : p.Fit) (h clock slewed why : Int) (recv xmit : Nat) : (p.answer h clock slewed why recv xmit).1.Fit := by
  have h0 := hp.1
  unfold PeerS.answer
  repeat' split
  all_goals first | exact hp | skip
  · obtain ⟨⟨a1, a2, a3, a4, a5, a6, a7, a8, a9, a10, a11, a12⟩, b, c⟩ := hp
    exact ⟨by constructor <;> simp only [] <;> assumption, b, c⟩
  · refine ⟨PeerS.Ok.rest ?_ h0.l0 h0.l1, hp.2⟩
    obtain ⟨a1, a2, a3, a4, a5, a6, a7, a8, a9, a10, a11, a12⟩ := h0
    constructor <;> simp only [] <;> assumption
theorem answer_ok {p : PeerS} {h clock slewed why : Int} {recv xmit : Nat} {x : SampleS} (hh : I64 h) (hz : I64 slewed) (hx : (p.answer h clock slewed why recv xmit).2.1 = some x) : x.Ok := by
  unfold PeerS.answer at hx
  repeat' split at hx
  all_goals first | (cases hx; done) | skip
  cases hx
  refine ⟨fdiv_mid (diffS_range _ _) (diffS_range _ _), ?_, hh, hz⟩
  have := clamp_range (satSub (satSub clock p.clock) (diffS xmit recv))
  have h2 : I64 (satSub (satSub clock p.clock) (diffS xmit recv)) := clamp_range _
  obtain ⟨a, b⟩ := h2
  constructor
  · show _ ≤ max 0 _
    omega
  · show max 0 _ ≤ _
    omega
theorem storeAdd_ok {l : List SampleS} {x : SampleS} (h : l.length ≤ 8 ∧ ∀ y ∈ l, y.Ok) (hx : x.Ok) : (storeAdd l x).length ≤ 8 ∧ ∀ y ∈ storeAdd l x, y.Ok := by
  refine ⟨storeAdd_len h.1 x, fun y hy => ?_⟩
  unfold storeAdd at hy
  split at hy
  · rcases List.mem_append.1 hy with h1 | h1
    · exact h.2 y h1
    · rw [List.mem_singleton.1 h1]; exact hx
  · rcases List.mem_append.1 hy with h1 | h1
    · exact h.2 y (List.mem_of_mem_tail h1)
    · rw [List.mem_singleton.1 h1]; exact hx
end Go.Proofs.YtpjfiplejhbdfaaGreatDoor

namespace Go.Proofs.YtpjfiplejhbdfaaGreatDoor
set_option linter.unusedSimpArgs false
open Go.RowKit

/-- An event's value. -/
abbrev evV (k h a : Int) (draw : Nat) (dv : Value) : Value := .agg #[.int .i64 k, .int .i64 h, .int .i64 a, .int .u64 (draw : Int), dv]
theorem hear_short (P : DPl) (k h a : Int) (draw : Nat) (p : Option Addr) (n c : Nat) (hn : (n : Int) < 48) (w : World) :
    Calls Tryz.prog 79 #[at0 P.b, evV k h a draw (.slice p n c)] w fun e w' => e = .returned (.int .i64 1) ∧ Mod NoB w w' := by
  go_enter Tryz.func79, Tryz.ntmps79
  go_wp2
  go_ret
  exact ⟨rfl, (Mod.refl _ _).alloc _⟩
set_option maxHeartbeats 4000000 in
theorem hear_unknown (P : DPl) (d : DaemonS) (hl : d.c.srv.length ≤ 1000) (k h a : Int) (draw : Nat) (p : Option Addr) (n c : Nat) (hn : ¬ (n : Int) < 48) (w : World) (hd : DO w P d) (hu : placeOf a d.c.srv = d.c.srv.length) :
    Calls Tryz.prog 79 #[at0 P.b, evV k h a draw (.slice p n c)] w fun e w' => e = .returned (.int .i64 2) ∧ Mod NoB w w' := by
  have k0 := cell_of_block hd.blk 0 rfl
  have hlt := lt_of_block hd.blk
  have hix : ∀ w2, Mod NoB w w2 → Calls Tryz.prog 93 #[.slice P.sp d.c.srv.length P.sc, .int .i64 a] w2 fun e w' => e = .returned (.int .i64 (-1)) ∧ w2 = w' := fun w2 hm => by
    have := index_any P.sp P.sc d.c.srv hl a w2 (hd.srv.mod0 hm)
    rw [if_pos hu] at this
    exact this
  clear hd
  replace hix := hide hix
  replace hu := hide hu
  go_enter Tryz.func79, Tryz.ntmps79
  go_wp2_with fail
  have hm1 : Mod NoB w (w.alloc (.cells #[.int .i64 k, .int .i64 h, .int .i64 a, .int .u64 (draw : Int), .slice p n c] 38)) := (Mod.refl _ _).alloc _
  have hb1 := heap_alloc_new w (.cells #[.int .i64 k, .int .i64 h, .int .i64 a, .int .u64 (draw : Int), .slice p n c] 38)
  generalize w.alloc (.cells #[.int .i64 k, .int .i64 h, .int .i64 a, .int .u64 (draw : Int), .slice p n c] 38) = w1 at *
  have y0 := hm1.cellAt id k0
  have e2 := cell_of_block hb1 2 rfl
  have hlt1 := lt_of_block hb1
  have hix1 := hide (fun w2 (hm : Mod NoB w1 w2) => hix.out w2 (hm1.trans hm))
  replace hm1 := hide hm1
  replace hb1 := hide hb1
  clear k0
  go_region_with ((go_at_call 93; refine (hix1.out _ (by first | exact (Mod.refl _ _).drew | exact (Mod.refl _ _).drewN _ | exact Mod.refl _ _)).mono ?_; rintro e w5 ⟨rfl, rfl⟩))
  all_goals
    go_wp2
    go_ret
    exact ⟨rfl, hm1.out.drew⟩
end Go.Proofs.YtpjfiplejhbdfaaGreatDoor

