/- All that is sent are queries to servers of the config, by ticks alone, with the last draw that wasn't 0 as cookie, at least the least number of seconds apart for one server, and none to one that sent a kiss. No condition. -/
import Derived.Test.YtpjfiplejhbdfaaGreatDoorPUbh
import Derived.Test.YtpjfiplejhbdfaaGreatDoorPUbi
import Derived.Test.YtpjfiplejhbdfaaGreatDoorPUam
import Derived.Lay
namespace Go.Proofs.YtpjfiplejhbdfaaGreatDoor.daemonSends
open Go.ChangeShapes Go.WideShapes Go.ChangeAt Go.RowKit Go.Proofs.YtpjfiplejhbdfaaGreatDoor
set_option linter.unusedVariables false
set_option linter.unusedSimpArgs false

def frS (V : Nat → Value) (z : Nat → Value) : Act := { tmps := #[V 0, V 1, V 2, V 3, V 4, V 5, V 6, V 7, V 8, V 9, V 10, V 11, V 12, V 13, V 14, V 15, V 16, V 17, V 18, V 19, V 20, V 21, V 22, V 23, V 24, V 25, V 26, V 27, V 28, V 29, V 30, V 31, V 32, V 33, V 34, V 35, V 36, V 37, V 38, V 39, V 40, V 41, V 42, V 43, V 44, V 45, V 46, V 47, V 48, V 49, V 50, V 51, V 52, V 53, V 54, V 55, V 56, V 57, V 58, V 59, V 60, V 61, V 62, V 63, V 64, V 65, V 66, V 67, V 68, V 69, V 70, V 71, V 72, V 73, V 74, V 75, V 76, V 77, V 78, V 79, V 80, V 81, V 82, V 83, V 84, V 85, V 86, V 87, V 88, V 89, V 90, V 91, V 92, V 93, V 94, V 95, V 96, V 97, V 98, V 99, V 100, V 101, V 102, V 103, V 104, V 105, V 106, V 107, V 108, V 109, V 110, V 111, V 112, V 113, V 114, V 115, V 116, V 117, V 118, V 119, V 120, V 121, V 122, V 123, z 124, z 125, z 126, z 127, z 128, z 129, z 130, z 131, z 132, z 133, z 134, z 135, z 136, z 137, z 138, z 139, z 140, z 141, z 142, z 143, z 144, z 145, z 146, z 147, z 148, z 149, z 150, z 151, z 152, z 153, z 154, z 155, z 156, z 157, z 158, z 159, z 160, V 161, V 162, V 163, V 164, V 165, V 166, V 167, V 168], defers := [] }
theorem puts_run (l : List Value) (D : List Deferred) (s m : Nat) (ds : List Nat) (z : Nat → Value) (hds : ds = List.range' s (m - s)) (hs : s ≤ m) (h : m ≤ l.length) :
    putsZ { tmps := l.toArray, defers := D } ds z = { tmps := (l.take s ++ (ds.map z ++ l.drop m)).toArray, defers := D } := by
  unfold putsZ
  congr 1
  apply Array.ext_getElem?
  intro i
  rw [puts_get, List.getElem?_toArray, List.getElem?_toArray, List.size_toArray]
  subst hds
  simp only [List.mem_range'_1]
  by_cases h1 : i < s
  · rw [if_neg (by omega), List.getElem?_append_left (by rw [List.length_take]; omega), List.getElem?_take_of_lt h1]
  · have hl1 : (l.take s).length = s := by rw [List.length_take]; omega
    rw [List.getElem?_append_right (by rw [hl1]; omega), hl1]
    by_cases h2 : i < m
    · rw [if_pos (by omega), List.getElem?_append_left (by simp; omega), List.getElem?_map, List.getElem?_range' (by omega)]
      simp
      congr 1
      omega
    · rw [if_neg (by omega), List.getElem?_append_right (by simp; omega), List.getElem?_drop]
      congr 1
      simp
      omega
theorem field2 (p : Option Addr) (n c : Nat) (q l m d s : Int) (w : World) : (Instr.field 31 (.agg #[.slice p n c, .int .i64 q, .int .i64 l, .int .i64 m, .int .i64 d, .int .i64 s]) 2).run Tryz.prog w = .ok (.int .i64 l) w := by kernel_rfl
theorem field0 (p : Option Addr) (n c : Nat) (q l m d s : Int) (w : World) : (Instr.field 31 (.agg #[.slice p n c, .int .i64 q, .int .i64 l, .int .i64 m, .int .i64 d, .int .i64 s]) 0).run Tryz.prog w = .ok (.slice p n c) w := by kernel_rfl
theorem zeroI (w : World) : (zeroValue 2).run Tryz.prog w = .ok (.int .i64 0) w := by kernel_rfl
theorem zeroB (w : World) : (zeroValue 4).run Tryz.prog w = .ok (.bool false) w := by kernel_rfl
theorem intsL_of_own {w : World} {base c : Nat} {p : Option Addr} {xs : List Int} (h : w.ownsRow base 3 1 (.slice p xs.length c) xs.length (xs.map (Value.int .i64))) : IntsL w p xs := by
  intro j hj
  obtain ⟨g, c', hv, _, hc⟩ := row_at5 h (by omega)
  obtain ⟨rfl, _, rfl⟩ := Value.slice.inj hv
  have hx : w.cell? ⟨g, j, none⟩ = some (.int .i64 (xs.getD j 0)) := hc j _ (by simp [hj])
  exact ⟨g, 0, rfl, lt_of_cell hx, by rw [Nat.zero_add]; exact hx⟩
/-- The two maps of the law. -/
def lastV (last : Int → Option Int) : Int → Option Value := fun a => (last a).map (Value.int .i64)
def kissV (kissed : Int → Bool) : Int → Option Value := fun a => if kissed a then some (.bool true) else none
theorem sentBy_nil (h : Int) (last : Int → Option Int) : sentBy h [] last = last := by funext a; simp [sentBy]
structure Maps (w2 : World) (Q : DPl) (bl bk : Nat) (last : Int → Option Int) (kissed : Int → Bool) (w : World) : Prop where
  l : MapF w bl (lastV last)
  k : MapF w bk (kissV kissed)
  ln : ¬ fpD Q bl
  kn : ¬ fpD Q bk
  ll : w2.heap.size ≤ bl
  lk : w2.heap.size ≤ bk
  ne : bl ≠ bk
  pos : ∀ a t, last a = some t → 0 ≤ t
theorem sentBy_step (h : Int) (L : List (Int × List Nat)) (last : Int → Option Int) {j : Nat} {x : Int × List Nat} (hx : L[j]? = some x) : sentBy h (L.take (j + 1)) last = fun a => if a = x.1 then some h else sentBy h (L.take j) last a := by
  funext a
  unfold sentBy
  rw [List.take_add_one, hx]
  simp only [Option.toList, List.map_append, List.map_cons, List.map_nil, List.mem_append, List.mem_singleton]
  by_cases ha : a = x.1
  · simp [ha]
  · simp [ha]
theorem Maps.put {w2 : World} {Q : DPl} {bl bk : Nat} {last : Int → Option Int} {kissed : Int → Bool} {w : World} (h : Maps w2 Q bl bk last kissed w) (k t : Int) (ht : 0 ≤ t) :
    ∃ o, (Instr.mapUpdate 34 (.map (some bl)) (.int .i64 k) (.int .i64 t)).run Tryz.prog w = .ok () (setO w bl o) ∧ Maps w2 Q bl bk (fun a => if a = k then some t else last a) kissed (setO w bl o) := by
  obtain ⟨o, hr, hm⟩ := h.l.put (P := Tryz.prog) Tryz.underlying34 Tryz.underlying3 k (.int .i64 t)
  have hv : putM (lastV last) k (.int .i64 t) = lastV (fun a => if a = k then some t else last a) := by
    funext a
    unfold putM lastV
    by_cases ha : a = k
    · simp [ha]
    · simp [ha]
  rw [hv] at hm
  have hmo : Mod (fun k => k = bl) w (setO w bl o) := setO_mod o
  refine ⟨o, hr, hm, h.k.mod hmo (fun e => h.ne e.symm), h.ln, h.kn, h.ll, h.lk, h.ne, fun a u hu => ?_⟩
  by_cases ha : a = k
  · simp only [ha, if_true] at hu
    cases hu
    exact ht
  · simp only [ha, if_false] at hu
    exact h.pos a u hu
theorem Maps.quiet {w2 : World} {Q : DPl} {bl bk : Nat} {last : Int → Option Int} {kissed : Int → Bool} {w w' : World} (h : Maps w2 Q bl bk last kissed w) (hm : Mod NoB w w') : Maps w2 Q bl bk last kissed w' :=
  ⟨h.l.quiet hm, h.k.quiet hm, h.ln, h.kn, h.ll, h.lk, h.ne, h.pos⟩
theorem Maps.to {w2 : World} {Q Q1 : DPl} {bl bk : Nat} {last : Int → Option Int} {kissed : Int → Bool} {w w' : World} (h : Maps w2 Q bl bk last kissed w) (ht : DTo Q Q1 w w') : Maps w2 Q1 bl bk last kissed w' :=
  ⟨h.l.mod ht.m h.ln, h.k.mod ht.m h.kn, fun x => (ht.f _ x).elim h.ln (fun y => Nat.lt_irrefl _ (Nat.lt_of_lt_of_le h.l.lt y)), fun x => (ht.f _ x).elim h.kn (fun y => Nat.lt_irrefl _ (Nat.lt_of_lt_of_le h.k.lt y)), h.ll, h.lk, h.ne, h.pos⟩
set_option maxRecDepth 100000 in
set_option maxHeartbeats 80000000 in
theorem walk (l : List UInt8) (hl : l.length ≤ 9223372036854775807) (p : Option Addr) (cap : Nat) (L : List ActS) (hLl : L.length ≤ 9223372036854775807) (w : World) (hL : LaidN w) (hA : ActsAt w p L) :
    Calls Tryz.prog 3 #[.string (bs l), .slice p L.length cap] w fun e w' => e = .returned (.bool true) ∧ Mod NoB w w' := by
  have hal := hide (fun wx (hm : Mod NoB w wx) => alive_any wx (hL.mod hm))
  have hgr := hide (fun wx (hm : Mod NoB w wx) => great_any p cap L hLl wx (hA.mod hm))
  have hnw := hide (fun wx (hm : Mod NoB w wx) => new_any l hl 0 0 wx (hL.mod hm))
  obtain ⟨n, hn⟩ : ∃ n, L.length = n := ⟨_, rfl⟩
  rw [hn] at hgr hLl ⊢
  replace hL := hide hL
  replace hA := hide hA
  replace hn := hide hn
  go_enter Tryz.func3, Tryz.ntmps3
  have hm1 : Hid (Mod NoB w w) := hide (Mod.refl _ _)
  by_cases h2l : 2000 < l.length
  · clear hgr hnw
    go_wp2_with fail
    refine (hal.out _ hm1.out).mono ?_
    rintro e w8 ⟨rfl, hm8⟩
    replace hm1 := hide (hm1.out.trans hm8)
    clear hm8
    go_wp2_with fail
    go_ret
    exact ⟨rfl, hm1.out⟩
  go_wp2_with fail
  refine (hgr.out _ hm1.out).mono ?_
  rintro e w2 ⟨g, rfl, hg, hm2⟩
  replace hm1 := hide (hm1.out.trans hm2)
  clear hm2 hgr
  rcases hg with rfl | ⟨rfl, hn80⟩
  · clear hnw
    go_wp2_with fail
    refine (hal.out _ hm1.out).mono ?_
    rintro e w8 ⟨rfl, hm8⟩
    replace hm1 := hide (hm1.out.trans hm8)
    clear hm8
    go_wp2_with fail
    go_ret
    exact ⟨rfl, hm1.out⟩
  replace hn80 := hide hn80
  go_wp2_with fail
  refine (hnw.out _ hm1.out).mono ?_
  rintro e w3 hp3
  have hm3 := hide (hm1.out.trans hp3.1)
  rcases hno : newOut l 0 0 with ⟨ln, er⟩ | c
  · obtain ⟨rfl, hm3'⟩ := new_none hp3 hno
    clear hp3 hm3' hnw
    have hne := newOut_no hno
    replace hno := hide hno
    have heb : (er != 0) = true := by simpa using hne
    replace hne := hide hne
    go_wp2_with fail
    refine (hal.out _ hm3.out).mono ?_
    rintro e w8 ⟨rfl, hm8⟩
    replace hm3 := hide (hm3.out.trans hm8)
    clear hm8
    go_wp2_with fail
    go_ret
    exact ⟨rfl, hm3.out⟩
  · obtain ⟨P, rfl, ho3⟩ := One.new hp3 hno
    clear hp3 hnw
    have hck := (newOut_yes hno).2.2.1
    have hne0 := (newOut_yes hno).2.2.2
    replace hno := hide hno
    obtain ⟨⟨l1, l2⟩, _, ⟨q1, q2⟩, _, s1, s2⟩ := cfg_nums hck
    have h16 := (fine_srv (check_fine hck)).2.1
    have hcf := hide (dconfig_any P (newS c 0 0) (by show 0 < c.srv.length; omega) (by show c.srv.length ≤ 1000; omega) w3 ho3.d)
    replace hck := hide hck
    replace hne0 := hide hne0
    replace ho3 := hide ho3
    have hmm := @run_makeMap Tryz.prog
    have hlw : IntKind.i64.wrap (c.l * 1000000000) = c.l * 1000000000 := wrap_in ⟨by omega, by omega⟩
    go_wp2_with fail
    refine hcf.out.mono ?_
    rintro e w4 ⟨v4, rfl, hrow4, hm4⟩
    obtain ⟨p4, c4, rfl⟩ := own_value hrow4
    have hfd := field2 p4
    replace ho3 := hide (ho3.out.quiet hm4)
    clear hcf hrow4 hm4 q1 q2 s1 s2 h16
    go_upto_region 7 with (fail)
    clear hfd
    go_upto_region 9 with (fail)
    have hmA : Mod NoB w4 ((w4.alloc (.map #[] 0)).alloc (.map #[] 0)) := ((Mod.refl _ _).alloc _).alloc _
    have hA := (heap_alloc_old (w := w4.alloc (.map #[] 0)) (by simp) (.map #[] 0)).trans (heap_alloc_new w4 (.map #[] 0))
    have hB := heap_alloc_new (w4.alloc (.map #[] 0)) (.map #[] 0)
    rw [World.size_alloc] at hB
    generalize (w4.alloc (.map #[] 0)).alloc (.map #[] 0) = w9 at *
    obtain ⟨bl, hbl⟩ : ∃ bl, w4.heap.size = bl := ⟨_, rfl⟩
    have hmp0 : Maps w2 P bl (bl + 1) (fun _ => none) (fun _ => false) w9 := by
      have hlt := ho3.out.d.lt
      have hw24 := ho3.out.old.size
      rw [hbl] at hA hB hlt hw24
      exact ⟨(MapF.new hA).heap (fun _ h => h), (MapF.new hB).heap (fun _ h => h), fun x => Nat.lt_irrefl _ (hlt _ x), fun x => by have := hlt _ x; omega, hw24, by omega, by omega, fun a t h => by cases h⟩
    replace ho3 := hide (ho3.out.quiet hmA)
    rw [hbl]
    replace hmp0 := hide hmp0
    replace hbl := hide hbl
    clear hmA hA hB hmm hlw
    have hlw2 : wrap64 ((newS c 0 0).c.l * 1000000000) = c.l * 1000000000 := by
      rw [wrap64_eq]
      exact wrap_in ⟨by show _ ≤ c.l * 1000000000; omega, by show c.l * 1000000000 ≤ _; omega⟩
    obtain ⟨ls, hls⟩ : ∃ ls, c.l * 1000000000 = ls := ⟨_, rfl⟩
    rw [hls] at hlw2
    rw [hlw2]
    have hls0 : 0 ≤ ls := by omega
    have hls1 : ls ≤ 1024000000000 := by omega
    replace hls := hide hls
    clear hlw2
    have hb0 := ho3.out.b
    go_wp2_with fail
    go_loopw [54, 9] (fun s54 s9 wr => ∃ (k dr : Nat) (Q : DPl) (d : DaemonS) (last : Int → Option Int) (kissed : Int → Bool), s54 = .int .i64 k ∧ s9 = .int .u64 dr ∧ k ≤ n ∧ dr < 18446744073709551616 ∧ Q.b = P.b ∧ d.Ok ∧ d.Cnt k ∧ d.c = c ∧ d.draw = dr ∧ d.Knows last kissed ∧ One w2 Q d wr ∧ Maps w2 Q bl (bl + 1) last kissed wr) (fun s54 _ wr => n - (match s54 with | .int _ i => i.toNat | _ => 0))
    case atStart => exact ⟨0, 0, P, newS c 0 0, _, _, rfl, rfl, Nat.zero_le _, by decide, rfl, (newS_ok hck.out hne0.out).1, (newS_ok hck.out hne0.out).2, rfl, rfl, newS_knows hck.out 0 0, ho3.out, hmp0.out⟩
    case round =>
      obtain ⟨k, dr, Q, d, last, kissed, rfl, rfl, hk, hdr, hq, hok, hcn, hdc, hdd, hkn0, ht, hmp⟩ := hrel
      replace hq := hide hq
      replace hok := hide hok
      replace hcn := hide hcn
      replace hdr := hide hdr
      replace hdc := hide hdc
      replace hdd := hide hdd
      replace hkn0 := hide hkn0
      replace hmp := hide hmp
      by_cases hkn : k < n
      · clear hm3
        obtain ⟨x, hx⟩ : ∃ x, L[k]? = some x := ⟨L[k]'(by rw [hn.out]; exact hkn), List.getElem?_eq_getElem (by rw [hn.out]; exact hkn)⟩
        obtain ⟨g, off, rfl, hglt, hat⟩ := hA.out k x hx
        obtain ⟨⟨dp, dc, c0, c1, c2, c3, c4, c5, hda, hdl⟩, ik, ih, ia, id'⟩ := hat
        have hmr := hm1.out.trans ht.old
        replace c0 := hmr.cellAt id c0
        replace c1 := hmr.cellAt id c1
        replace c2 := hmr.cellAt id c2
        replace c3 := hmr.cellAt id c3
        replace c4 := hmr.cellAt id c4
        replace c5 := hmr.cellAt id c5
        replace hda := hda.mod hmr
        replace hglt := Nat.lt_of_lt_of_le hglt hmr.size
        replace hdl : ∀ bd off, dp = some ⟨bd, off, none⟩ → 0 < x.e.data.length → bd < w2.heap.size := fun bd off a b => Nat.lt_of_lt_of_le (hdl bd off a b) hm1.out.size
        replace hdl := hide hdl
        clear hmr
        replace ht := hide ht
        replace hda := hide hda
        replace hx := hide hx
        have hki : (k : Int) < n := by omega
        go_upto_region 12 with (fail)
        have hw5 := heap_alloc_new wr (.cells #[.int .i64 x.e.kind, .int .i64 x.e.h, .int .i64 x.e.addr, .int .u64 (x.e.draw : Int), .slice dp x.e.data.length dc, .bool x.good] 40)
        have hq5 : Mod NoB wr (wr.alloc (.cells #[.int .i64 x.e.kind, .int .i64 x.e.h, .int .i64 x.e.addr, .int .u64 (x.e.draw : Int), .slice dp x.e.data.length dc, .bool x.good] 40)) := (Mod.refl _ _).alloc _
        generalize wr.alloc (.cells #[.int .i64 x.e.kind, .int .i64 x.e.h, .int .i64 x.e.addr, .int .u64 (x.e.draw : Int), .slice dp x.e.data.length dc, .bool x.good] 40) = w5 at *
        replace hda := hide (hda.out.mod hq5)
        replace ht := hide (ht.out.quiet hq5)
        replace hmp := hide (hmp.out.quiet hq5); obtain ⟨bA, hbA⟩ : ∃ bA, wr.heap.size = bA := ⟨_, rfl⟩; rw [hbA] at hw5 ⊢; replace hbA := hide hbA
        clear hq5 c0 c1 c2 c3 c4 c5
        have c0 := cell_of_block hw5 0 (v := .int .i64 x.e.kind) rfl
        have c1 := cell_of_block hw5 1 (v := .int .i64 x.e.h) rfl
        have c2 := cell_of_block hw5 2 (v := .int .i64 x.e.addr) rfl
        have c3 := cell_of_block hw5 3 (v := .int .u64 (x.e.draw : Int)) rfl
        have c4 := cell_of_block hw5 4 (v := .slice dp x.e.data.length dc) rfl
        have c5 := cell_of_block hw5 5 (v := .bool x.good) rfl
        replace hw5 := hide hw5
        have hev := hide (event_any x dp dc dr hdr.out id' w5 hda.out)
        go_wp2_with fail
        refine hev.out.mono ?_
        rintro e w6 ⟨dp', dc', rfl, hda6, hap6, hm6⟩
        replace hmp := hide (hmp.out.quiet hm6)
        clear hev c0 c1 c2 c3 c4 c5 hw5
        obtain ⟨z, hz⟩ : ∃ z, evOf x dr = z := ⟨_, rfl⟩
        rw [hz] at hda6 hap6 ⊢
        have hap := hide (ev_apart (w := w5) (l' := z.data) (dp' := dp') ht.out (dp := dp) (l := x.e.data) hdl.out hap6)
        replace ht := hide (ht.out.quiet hm6)
        replace hda6 := hide hda6
        obtain ⟨iz1, iz2, iz3, iz4⟩ := evOf_in ik ih ia id' dr
        rw [hz] at iz1 iz2 iz3 iz4
        replace hz := hide hz
        clear hm6 hap6 hda
        go_upto_region 13 with (fail)
        have hEn : ¬ fpD Q w6.heap.size := fun x => Nat.lt_irrefl _ (ht.out.d.lt _ x)
        have hw7 := heap_alloc_new w6 (.cells #[.int .i64 z.kind, .int .i64 z.h, .int .i64 z.addr, .int .u64 (z.draw : Int), .slice dp' z.data.length dc'] 38)
        have hq7 : Mod NoB w6 (w6.alloc (.cells #[.int .i64 z.kind, .int .i64 z.h, .int .i64 z.addr, .int .u64 (z.draw : Int), .slice dp' z.data.length dc'] 38)) := (Mod.refl _ _).alloc _
        generalize w6.alloc (.cells #[.int .i64 z.kind, .int .i64 z.h, .int .i64 z.addr, .int .u64 (z.draw : Int), .slice dp' z.data.length dc'] 38) = w7 at *
        replace hda6 := hide (hda6.out.mod hq7)
        replace ht := hide (ht.out.quiet hq7)
        replace hmp := hide (hmp.out.quiet hq7)
        obtain ⟨bE, hbE⟩ : ∃ bE, w6.heap.size = bE := ⟨_, rfl⟩
        rw [hbE] at hw7 hEn ⊢
        replace hEn := hide hEn
        clear hq7
        replace hw7 := hide hw7
        replace hbE := hide hbE
        have x0 := cell_of_block hw7.out 0 (v := .int .i64 z.kind) rfl
        have x1 := cell_of_block hw7.out 1 (v := .int .i64 z.h) rfl
        have x2 := cell_of_block hw7.out 2 (v := .int .i64 z.addr) rfl
        have x3 := cell_of_block hw7.out 3 (v := .int .u64 (z.draw : Int)) rfl
        have x4 := cell_of_block hw7.out 4 (v := .slice dp' z.data.length dc') rfl
        have hN8 : (k : Int) ≤ 9007199254740992 := by have := hn80.out; omega
        have hdo := do_z (P := Q) hok.out hcn.out hN8 iz1 iz2 iz4 dp' dc' ht.out.d hda6.out hap.out
        obtain ⟨hok2, hcn2⟩ := hok.out.do (e := z) iz4 hcn.out hN8
        obtain ⟨hsk, hs16⟩ := do_sendsOk hok.out z
        have hdc2 : (doS d z).1.c = c := (do_c d z).trans hdc.out
        have hdr2 := do_draw d z
        rw [hdd.out] at hdr2
        have hno0 : errS d z ≠ 0 → doS d z = (d, out0) := doS_err
        have hye0 : errS d z = 0 → _ := fun h0 => do_sends hok.out h0 hkn0.out
        have hyb : errS d z = 0 → 0 ≤ z.h ∧ z.h ≤ 4611686018427387903 := fun h0 => ⟨(err_none h0).2.1, (err_none h0).2.2.1⟩
        obtain ⟨er, her⟩ : ∃ er, errS d z = er := ⟨_, rfl⟩
        obtain ⟨d', hd'⟩ : ∃ d', (doS d z).1 = d' := ⟨_, rfl⟩
        obtain ⟨O, hO⟩ : ∃ O, (doS d z).2 = O := ⟨_, rfl⟩
        rw [her, hd', hO, hq.out] at hdo
        rw [her, hd', hO] at hye0
        rw [her] at hno0 hyb
        rw [hd'] at hok2 hcn2 hdc2 hdr2
        rw [her] at hdr2
        rw [hO] at hsk hs16
        replace her := hide her
        replace hd' := hide hd'
        replace hO := hide hO
        replace hye0 := hide hye0
        replace hyb := hide hyb
        replace hno0 := hide hno0
        replace hok2 := hide hok2
        replace hcn2 := hide hcn2
        replace hdc2 := hide hdc2
        replace hdr2 := hide hdr2
        replace hsk := hide hsk
        replace hdo := hide hdo
        go_wp2_with fail
        refine hdo.out.mono ?_
        rintro _ wb ⟨v, Q2, rfl, hd2, hto2, hs2⟩
        obtain ⟨p9, c9, hv9⟩ := hs2.slice
        subst hv9
        have hb2 : Q2.b = P.b := hto2.b.trans hq.out
        have ht2 := ht.out.step hd2 hto2
        have hmp2 := hmp.out.to hto2
        have hblt := hmp.out.k.lt
        have hmp2p := hide hmp.out.pos
        obtain ⟨B0, hB0⟩ : ∃ B0, w7.heap.size = B0 := ⟨_, rfl⟩
        rw [hB0] at hs2 hblt
        have hw7b := (hto2.block hw7.out hEn.out).1
        clear hdo x0 x1 x2 x3 x4 ht hd2 hto2 hw7 hda6 hmp hap
        go_upto_region 14 with (fail)
        have hwo := heap_alloc_new wb (.cells #[.slice p9 O.sends.length c9, .int .i64 O.clock, .int .i64 O.wake, .int .i64 O.reason] 44)
        have hqo : Mod NoB wb (wb.alloc (.cells #[.slice p9 O.sends.length c9, .int .i64 O.clock, .int .i64 O.wake, .int .i64 O.reason] 44)) := (Mod.refl _ _).alloc _
        generalize wb.alloc (.cells #[.slice p9 O.sends.length c9, .int .i64 O.clock, .int .i64 O.wake, .int .i64 O.reason] 44) = wo at *
        obtain ⟨bo, hbo⟩ : ∃ bo, wb.heap.size = bo := ⟨_, rfl⟩
        rw [hbo] at hwo ⊢
        replace ht2 := ht2.quiet hqo
        replace hmp2 := hmp2.quiet hqo
        replace hs2 := hs2.mod hqo (fun _ _ => id)
        replace hw7b := hqo.heap hw7b id
        clear hqo
        have x0 := cell_of_block hw7b 0 (v := .int .i64 z.kind) rfl
        have x1 := cell_of_block hw7b 1 (v := .int .i64 z.h) rfl
        have x2 := cell_of_block hw7b 2 (v := .int .i64 z.addr) rfl
        have x3 := cell_of_block hw7b 3 (v := .int .u64 (z.draw : Int)) rfl
        have y0 := cell_of_block hwo 0 (v := .slice p9 O.sends.length c9) rfl
        have y3 := cell_of_block hwo 3 (v := .int .i64 O.reason) rfl
        replace ht2 := hide ht2
        replace hmp2 := hide hmp2
        replace hs2 := hide hs2
        replace hw7b := hide hw7b
        replace hwo := hide hwo
        replace hbo := hide hbo
        by_cases h0 : er = 0
        · subst h0
          have hdr3 : d'.draw = if z.kind = 0 ∧ z.draw ≠ 0 then z.draw else dr := by rw [hdr2.out]; simp
          obtain ⟨hkn2, hnd, hemp, hall⟩ := hye0.out rfl
          obtain ⟨f1, f2⟩ := hyb.out rfl
          replace hdr3 := hide hdr3
          replace hkn2 := hide hkn2
          replace hnd := hide hnd
          replace hemp := hide hemp
          replace hall := hide hall
          go_upto_region 17 with (fail)
          go_cut [80] (fun s80 wx => ∃ b : Bool, s80 = .bool b ∧ wx = wo ∧ (b = true → d'.draw = z.draw) ∧ (b = false → d'.draw = dr))
          case first =>
            by_cases hk0 : z.kind = 0
            · by_cases hd0 : z.draw = 0
              · have hb0 : ((z.draw : Int) != 0) = false := by simp [hd0]
                go_wp2_with fail
                go_meet
                exact ⟨_, rfl, rfl, fun h => (by cases h), fun _ => by rw [hdr3.out, if_neg (by simp [hd0])]⟩
              · have hb0 : ((z.draw : Int) != 0) = true := by simpa using hd0
                go_wp2_with fail
                go_meet
                exact ⟨_, rfl, rfl, fun _ => by rw [hdr3.out, if_pos ⟨hk0, hd0⟩], fun h => (by cases h)⟩
            · have hb0 : (z.kind == 0) = false := by simpa using hk0
              go_wp2_with fail
              go_meet
              exact ⟨_, rfl, rfl, fun h => (by cases h), fun _ => by rw [hdr3.out, if_neg (by simp [hk0])]⟩
          case rest =>
            obtain ⟨b, rfl, rfl, hbt, hbf⟩ := hcut
            replace hbt := hide hbt
            replace hbf := hide hbf
            go_upto_if 80 with (fail)
            go_cut [9] (fun s9 wx => s9 = .int .u64 (d'.draw : Int) ∧ wx = wc)
            case first =>
              cases b with
              | true =>
                go_wp2_with fail
                go_meet
                exact ⟨by have h := hbt.out; simp at h; rw [h], rfl⟩
              | false =>
                go_wp2_with fail
                go_meet
                exact ⟨by have h := hbf.out; simp at h; rw [h], rfl⟩
            case rest =>
              obtain ⟨rfl, rfl⟩ := hcut
              clear hbt hbf
              obtain ⟨kissed', hks⟩ : ∃ kissed', (fun a => kissed a || (decide (z.kind = 1) && (decide (a = z.addr) && decide (O.reason = 8)))) = kissed' := ⟨_, rfl⟩
              have hkn3 : d'.Knows (sentBy z.h O.sends last) kissed' := by rw [← hks]; exact hkn2.out
              replace hks := hide hks
              replace hkn3 := hide hkn3
              clear hkn2
              have hnE : bE ≠ bl + 1 := fun e => by
                obtain ⟨es, c', hm, _⟩ := hmp2.out.k
                have := hw7b.out
                rw [e, hm] at this
                cases this
              have hnO : bo ≠ bl + 1 := fun e => by
                obtain ⟨es, c', hm, _⟩ := hmp2.out.k
                have := hwo.out
                rw [e, hm] at this
                cases this
              have hnE2 : bE ≠ bl := fun e => by
                obtain ⟨es, c', hm, _⟩ := hmp2.out.l
                have := hw7b.out
                rw [e, hm] at this
                cases this
              have hnO2 : bo ≠ bl := fun e => by
                obtain ⟨es, c', hm, _⟩ := hmp2.out.l
                have := hwo.out
                rw [e, hm] at this
                cases this
              go_upto_region 19 with (fail)
              go_cut [90] (fun s90 wx => s90 = .bool (decide (z.kind = 1) && decide (O.reason = 8)) ∧ wx = wc)
              case first =>
                by_cases hk1 : z.kind = 1
                · by_cases hr8 : O.reason = 8
                  · go_wp2_with fail
                    go_meet
                    exact ⟨by simp [hk1, hr8], rfl⟩
                  · have hb0 : (O.reason == 8) = false := by simpa using hr8
                    go_wp2_with fail
                    go_meet
                    exact ⟨by simp [hk1, hr8], rfl⟩
                · have hb0 : (z.kind == 1) = false := by simpa using hk1
                  go_wp2_with fail
                  go_meet
                  exact ⟨by simp [hk1], rfl⟩
              case rest =>
                obtain ⟨rfl, rfl⟩ := hcut
                go_upto_if 90 with (fail)
                go_cut [] (fun wx => One w2 Q2 d' wx ∧ Maps w2 Q2 bl (bl + 1) last kissed' wx ∧ Mod (fun k => k = bl + 1) wc wx)
                case first =>
                  by_cases hkr : z.kind = 1 ∧ O.reason = 8
                  · obtain ⟨hk1, hr8⟩ := hkr
                    obtain ⟨o, hrun, hmf⟩ := hmp2.out.k.put (P := Tryz.prog) Tryz.underlying35 Tryz.underlying3 z.addr (.bool true)
                    have hkv : putM (kissV kissed) z.addr (.bool true) = kissV kissed' := by
                      funext a
                      rw [← hks.out]
                      unfold putM kissV
                      by_cases ha : a = z.addr
                      · simp [ha, hk1, hr8]
                      · simp [ha]
                    rw [hkv] at hmf
                    have hmo : Mod (fun k => k = bl + 1) wc (setO wc (bl + 1) o) := setO_mod o
                    have hmpn : Maps w2 Q2 bl (bl + 1) last kissed' (setO wc (bl + 1) o) := ⟨hmp2.out.l.mod hmo (by omega), hmf, hmp2.out.ln, hmp2.out.kn, hmp2.out.ll, hmp2.out.lk, hmp2.out.ne, hmp2.out.pos⟩
                    have hon := ht2.out.put hmo (fun k e => by subst e; exact hmp2.out.kn) (fun k e => by subst e; exact hmp2.out.lk)
                    replace hmpn := hide hmpn
                    replace hon := hide hon
                    replace hmo := hide hmo
                    replace hmf := hide hmf
                    clear hkv
                    go_wp2_with fail
                    go_meet
                    exact ⟨hon.out, hmpn.out, hmo.out⟩
                  · have hb0 : (decide (z.kind = 1) && decide (O.reason = 8)) = false := by
                      rw [Bool.and_eq_false_iff]
                      by_cases hk1 : z.kind = 1
                      · exact Or.inr (decide_eq_false (fun h => hkr ⟨hk1, h⟩))
                      · exact Or.inl (decide_eq_false hk1)
                    have hks2 : kissed = kissed' := by
                      rw [← hks.out]
                      funext a
                      by_cases hk1 : z.kind = 1
                      · have : ¬ O.reason = 8 := fun h => hkr ⟨hk1, h⟩
                        simp [this]
                      · simp [hk1]
                    replace hks2 := hide hks2
                    replace hkr := hide hkr
                    go_wp2_with fail
                    go_meet
                    exact ⟨ht2.out, by rw [← hks2.out]; exact hmp2.out, Mod.refl _ _⟩
                case rest =>
                  obtain ⟨ho4, hmp4, hmo4⟩ := hcut
                  have hw7c := hmo4.heap hw7b.out hnE
                  have hwoc := hmo4.heap hwo.out hnO
                  have hs5 := hs2.out.mod hmo4 (fun k hk e => by omega)
                  have z0 := cell_of_block hwoc 0 (v := .slice p9 O.sends.length c9) rfl
                  have hcf := hide (fun wx (hx : DO wx Q2 d') => dconfig_any Q2 d' (by have := (cfg_nums hok2.out.c).2.2.1; omega) (Nat.le_trans (fine_srv (check_fine hok2.out.c)).2.1 (by decide)) wx hx)
                  rw [hb2, hdc2.out] at hcf
                  have hc16 := (fine_srv (check_fine hok2.out.c)).2.1
                  rw [hdc2.out] at hc16
                  replace hw7c := hide hw7c
                  replace hs5 := hide hs5
                  replace ho4 := hide ho4
                  replace hmp4 := hide hmp4
                  clear hw7b hwo hs2 hmo4 x0 x1 x2 x3 y0 y3 ht2 hmp2 hwoc
                  go_wp2_with fail
                  go_loopw [97] (fun s97 wx => ∃ j : Nat, s97 = .int .i64 j ∧ j ≤ O.sends.length ∧ One w2 Q2 d' wx ∧ Maps w2 Q2 bl (bl + 1) (sentBy z.h (O.sends.take j) last) kissed' wx ∧ Mod (fun k => k = bl) wc wx) (fun s97 wx => O.sends.length - (match s97 with | .int _ i => i.toNat | _ => 0))
                  case atStart => exact ⟨0, rfl, Nat.zero_le _, ho4.out, by rw [List.take_zero, sentBy_nil]; exact hmp4.out, Mod.refl _ _⟩
                  case round =>
                    obtain ⟨j, rfl, hj, ho5, hmp5, hm5⟩ := hrel
                    by_cases hjn : j < O.sends.length
                    · obtain ⟨sj, hsj⟩ : ∃ sj, O.sends[j]? = some sj := ⟨O.sends[j]'hjn, List.getElem?_eq_getElem hjn⟩
                      obtain ⟨g1, c1, u1, hv, hg0, q10, q11, hu1⟩ := sends_at (hs5.out.mod hm5 (fun k hk e => by omega)) hsj
                      obtain ⟨rfl, _, rfl⟩ := Value.slice.inj hv
                      obtain ⟨hsb, hs0, hs9⟩ := hsk.out sj (List.mem_of_getElem? hsj)
                      obtain ⟨e1, m1, rfl, _, _, _, by1⟩ := own_data hu1 hsb hs0
                      have hji : (j : Int) < O.sends.length := by omega
                      have hnE5 := hm5.heap hw7c.out hnE2
                      have hns16 := hs16
                      replace ho5 := hide ho5
                      replace hmp5 := hide hmp5
                      replace hsj := hide hsj
                      replace hu1 := hide hu1
                      replace hsb := hide hsb
                      replace by1 := hide by1
                      replace hnE5 := hide hnE5
                      clear hv z0
                      go_upto_region 24 with (fail)
                      have hsx := heap_alloc_new wr (.cells #[.int .i64 sj.1, .slice (some ⟨e1, 0, none⟩) sj.2.length m1] 48)
                      have hqx : Mod NoB wr (wr.alloc (.cells #[.int .i64 sj.1, .slice (some ⟨e1, 0, none⟩) sj.2.length m1] 48)) := (Mod.refl _ _).alloc _
                      generalize wr.alloc (.cells #[.int .i64 sj.1, .slice (some ⟨e1, 0, none⟩) sj.2.length m1] 48) = ws at *
                      obtain ⟨sb, hsbs⟩ : ∃ sb, wr.heap.size = sb := ⟨_, rfl⟩
                      rw [hsbs] at hsx ⊢
                      replace ho5 := hide (ho5.out.quiet hqx)
                      replace hmp5 := hide (hmp5.out.quiet hqx)
                      replace hnE5 := hide (hqx.heap hnE5.out id)
                      replace by1 := hide (by1.out.mod hqx id)
                      replace hm5 := hide (hm5.trans (hqx.mono (fun _ _ f => f.elim)))
                      replace hsbs := hide hsbs
                      clear hqx q10 q11
                      have hmem := List.mem_of_getElem? hsj.out
                      obtain ⟨hA1, hA2, hA3, hA4, hA5⟩ := hall.out sj hmem
                      have hk0 : z.kind = 0 := by
                        rcases Decidable.em (z.kind = 0) with h | h
                        · exact h
                        · rw [hemp.out h] at hmem; cases hmem
                      have hks5 : kissed' sj.1 = false := by
                        rw [← hks.out]
                        simp [hA4, hk0]
                      have hnot : sj.1 ∉ (O.sends.take j).map (·.1) := by
                        intro hm
                        obtain ⟨y, hy, hye⟩ := List.mem_map.1 hm
                        obtain ⟨i, hi⟩ := List.mem_iff_getElem?.1 hy
                        have hil : i < (O.sends.take j).length := (List.getElem?_eq_some_iff.1 hi).1
                        have hij : i < j := by rw [List.length_take] at hil; omega
                        rw [List.getElem?_take_of_lt hij] at hi
                        have e1 : (O.sends.map (·.1))[i]? = some sj.1 := by rw [List.getElem?_map, hi]; simp [hye]
                        have e2 : (O.sends.map (·.1))[j]? = some sj.1 := by rw [List.getElem?_map, hsj.out]; rfl
                        have := nodup_get hnd.out e1 e2
                        omega
                      have hlk := hmp5.out.l.look (P := Tryz.prog) Tryz.underlying34 Tryz.underlying3 zeroI sj.1
                      obtain ⟨atv, sm, hlv, hsv, hsm⟩ : ∃ (atv : Int) (sm : Bool), (lastV (sentBy z.h (O.sends.take j) last) sj.1).getD (.int .i64 0) = .int .i64 atv ∧ (lastV (sentBy z.h (O.sends.take j) last) sj.1).isSome = sm ∧ (sm = true → 0 ≤ atv ∧ atv + ls ≤ z.h) := by
                        have hlj : sentBy z.h (O.sends.take j) last sj.1 = last sj.1 := if_neg hnot
                        unfold lastV
                        rw [hlj]
                        cases hl : last sj.1 with
                        | none => exact ⟨0, false, rfl, rfl, fun h => by cases h⟩
                        | some t =>
                          refine ⟨t, true, rfl, rfl, fun _ => ⟨hmp2p.out sj.1 t hl, ?_⟩⟩
                          have := hA5 t hl
                          rw [hdc.out] at this
                          rw [← hls.out]
                          exact this
                      rw [hlv, hsv] at hlk
                      have s0 := cell_of_block hsx 0 (v := .int .i64 sj.1) rfl
                      replace hA3 := hide hA3
                      replace hA5 := hide hA5
                      replace hnot := hide hnot
                      replace hlv := hide hlv
                      replace hsv := hide hsv
                      replace hsm := hide hsm
                      replace hsx := hide hsx
                      replace hmem := hide hmem
                      have hsrv : sj.1 ∈ c.srv := by rw [← hdc.out]; exact hA1
                      replace hsrv := hide hsrv
                      clear hA1
                      go_wp2_with fail
                      refine (hcf.out ws ho5.out.d).mono ?_
                      rintro _ wk ⟨v4, rfl, hr4, hm4⟩
                      obtain ⟨q4, d4, rfl⟩ := own_value hr4
                      have hfd := field0 q4
                      have hi4 := intsL_of_own hr4
                      replace ho5 := hide (ho5.out.quiet hm4)
                      replace hmp5 := hide (hmp5.out.quiet hm4)
                      replace hnE5 := hide (hm4.heap hnE5.out id)
                      replace by1 := hide (by1.out.mod hm4 id)
                      replace hsx := hide (hm4.heap hsx.out id)
                      replace hm5 := hide (hm5.out.trans (hm4.mono (fun _ _ f => f.elim)))
                      replace hi4 := hide hi4
                      clear hr4 hm4 hlk s0
                      go_wp2_with fail
                      clear hfd
                      go_loopw [112, 21] (fun s112 s21 wx => ∃ i : Nat, s112 = .int .i64 i ∧ s21 = .bool (decide (sj.1 ∈ c.srv.take i)) ∧ i ≤ c.srv.length ∧ Mod NoB wk wx) (fun s112 _ wx => c.srv.length - (match s112 with | .int _ i => i.toNat | _ => 0))
                      case atStart => exact ⟨0, rfl, by simp, Nat.zero_le _, Mod.refl _ _⟩
                      case round =>
                        obtain ⟨i, rfl, rfl, hi, hmi⟩ := hrel
                        have s0 := cell_of_block (hmi.heap hsx.out id) 0 (v := .int .i64 sj.1) rfl
                        by_cases hin : i < c.srv.length
                        · obtain ⟨gs, os, rfl, _, hcs⟩ := hi4.out.mod0 hmi i hin
                          obtain ⟨ci, hci⟩ : ∃ ci, c.srv[i]? = some ci := ⟨c.srv[i]'hin, List.getElem?_eq_getElem hin⟩
                          rw [show c.srv.getD i 0 = ci by simp [List.getD, hci]] at hcs
                          have hii : (i : Int) < c.srv.length := by omega
                          have htk : ∀ b : Bool, ((decide (sj.1 ∈ c.srv.take i) || decide (ci = sj.1)) = b) → decide (sj.1 ∈ c.srv.take (i + 1)) = b := by
                            intro b hb
                            rw [← hb, List.take_add_one, hci]
                            simp [eq_comm]
                          replace hmi := hide hmi
                          replace htk := hide htk
                          replace hci := hide hci
                          generalize hd : decide (sj.1 ∈ c.srv.take i) = bd at htk ⊢
                          replace hd := hide hd
                          cases bd with
                          | true =>
                            go_wp2_with fail
                            go_roundw
                            case rel => exact ⟨i + 1, rfl, congrArg Value.bool (htk.out true (by simp)).symm, hin, hmi.out⟩
                            case measure =>
                              show c.srv.length - ((i : Int) + 1).toNat < c.srv.length - (i : Int).toNat
                              omega
                          | false =>
                            by_cases hce : ci = sj.1
                            · have hcb : (ci == sj.1) = true := by simpa using hce
                              go_wp2_with fail
                              go_roundw
                              case rel => exact ⟨i + 1, rfl, congrArg Value.bool (htk.out true (by simp [hce])).symm, hin, hmi.out⟩
                              case measure =>
                                show c.srv.length - ((i : Int) + 1).toNat < c.srv.length - (i : Int).toNat
                                omega
                            · have hcb : (ci == sj.1) = false := by simpa using hce
                              go_wp2_with fail
                              go_roundw
                              case rel => exact ⟨i + 1, rfl, congrArg Value.bool (htk.out false (by simp [hce])).symm, hin, hmi.out⟩
                              case measure =>
                                show c.srv.length - ((i : Int) + 1).toNat < c.srv.length - (i : Int).toNat
                                omega
                        · have hii : ¬ ((i : Int) < c.srv.length) := by omega
                          have htr : decide (sj.1 ∈ c.srv.take i) = true := by
                            rw [List.take_of_length_le (by omega)]
                            exact decide_eq_true hsrv.out
                          rw [htr]
                          clear htr s0
                          replace hmi := hide hmi
                          go_upto_region 31 with (fail)
                          have hEr := hmi.out.heap hnE5.out id
                          have hSr := hmi.out.heap hsx.out id
                          have x0 := cell_of_block hEr 0 (v := .int .i64 z.kind) rfl
                          have x1 := cell_of_block hEr 1 (v := .int .i64 z.h) rfl
                          have s0 := cell_of_block hSr 0 (v := .int .i64 sj.1) rfl
                          have s1 := cell_of_block hSr 1 (v := .slice (some ⟨e1, 0, none⟩) sj.2.length m1) rfl
                          have hkb : (z.kind != 0) = false := by simp [hk0]
                          have hdb : ((d'.draw : Int) == 0) = false := by simpa using hA2
                          have hby := hide (by1.out.mod hmi.out id)
                          have hqy := hide (fun wx => query_any d'.draw hok2.out.dr wx)
                          have hlo := hide (fun wx (hm : Mod NoB wr wx) => (hmp5.out.quiet (hmi.out.trans hm)).k.look1 (P := Tryz.prog) Tryz.underlying35 Tryz.underlying3 zeroB sj.1)
                          have hkv : (kissV kissed' sj.1).getD (.bool false) = .bool false := by unfold kissV; rw [hks5]; rfl
                          rw [hkv] at hlo
                          have hl1 := hlo.out wr.drew (Mod.refl _ _).drew
                          have hcv1 := conv_bytes (w := wr.drew) (cap := m1) rfl (hby.out.mod (Mod.refl NoB wr).drew id)
                          obtain ⟨hqb, hqn⟩ : (∀ y ∈ (queryP d'.draw).bytes, y < 256) ∧ (queryP d'.draw).bytes.length = 48 := ⟨query_lt _, query_len _⟩
                          have hst : strB sj.2 = strB (queryP d'.draw).bytes := by rw [hA3.out]
                          rw [hst] at hcv1
                          generalize (queryP d'.draw).bytes = qb at *
                          replace hqb := hide hqb
                          replace hqn := hide hqn
                          replace hst := hide hst
                          have hwz : sm = true → IntKind.i64.wrap (z.h - atv) = z.h - atv ∧ decide (z.h - atv < ls) = false := fun h => by
                            obtain ⟨i1, i2⟩ := hsm.out h
                            exact ⟨wrap_in ⟨by omega, by omega⟩, by simp; omega⟩
                          cases sm with
                          | true =>
                           as_aux_lemma =>
                            obtain ⟨hw1, hw2⟩ := hwz rfl
                            clear hwz
                            clear hcv1 hl1
                            replace hk0 := hide hk0
                            replace x0 := hide x0
                            replace s0 := hide s0
                            replace s1 := hide s1
                            replace x1 := hide x1
                            refine wp_frame frS 169 [124, 125, 126, 127, 128, 129, 130, 131, 132, 133, 134, 135, 136, 137, 138, 139, 140, 141, 142, 143, 144, 145, 146, 147, 148, 149, 150, 151, 152, 153, 154, 155, 156, 157, 158, 159, 160] (fun V z => rfl) _ rfl rfl (fun V hV hputs => ?_)
                            have hV14 : V 14 = at0 bE := (hV.out 14).trans rfl
                            have hV9 : V 9 = .int .u64 (d'.draw : Int) := (hV.out 9).trans rfl
                            have hV18 : V 18 = at0 sb := (hV.out 18).trans rfl
                            have hV21 : V 21 = .bool true := (hV.out 21).trans rfl
                            have hV20 : V 20 = .bool true := (hV.out 20).trans rfl
                            have hV11 : V 11 = .map (some (bl + 1)) := (hV.out 11).trans rfl
                            have hV19 : V 19 = .int .i64 atv := (hV.out 19).trans rfl
                            have hV8 : V 8 = .int .i64 ls := (hV.out 8).trans rfl
                            obtain ⟨dS, hdS⟩ : ∃ dS : List Nat, dS = [124, 125, 126, 127, 128, 129, 130, 131, 132, 133, 134, 135, 136, 137, 138, 139, 140, 141, 142, 143, 144, 145, 146, 147, 148, 149, 150, 151, 152, 153, 154, 155, 156, 157, 158, 159, 160] := ⟨_, rfl⟩
                            obtain ⟨vS, hvS⟩ : ∃ vS : List Value, vS = [(.pointer (some ⟨bE, 0, none⟩)), (.int .i64 z.kind), (.bool false), (.bool false), (.int .u64 (d'.draw : Int)), (.bool false), (.bool false), (.bool false), (.pointer (some ⟨sb, 1, none⟩)), (.slice (some ⟨e1, 0, none⟩) sj.2.length m1), (.string (strB qb)), (.int .u64 (d'.draw : Int)), undef, (.string (strB qb)), (.bool false), (.bool false), (.bool false), (.bool true), (.bool false), (.bool false), (.bool false), (.bool true), (.bool true), (.pointer (some ⟨bE, 1, none⟩)), (.int .i64 z.h), (.int .i64 atv), (.int .i64 (z.h - atv)), (.int .i64 ls), (.bool false), (.bool false), (.bool false), (.bool false), (.map (some (bl + 1))), (.pointer (some ⟨sb, 0, none⟩)), (.int .i64 sj.1), (.bool false), (.bool false)] := ⟨_, rfl⟩
                            refine wp_region_inv (by kernel_rfl) (by kernel_rfl) (fun listed xA wA => ∃ zS, xA = frS V zS ∧ InvC dS vS 12 (fun w v => ∃ g c, v = .slice (some ⟨g, 0, none⟩) qb.length c ∧ BytesAt w g 0 qb) wr (LOf listed) zS wA) ?_ ?_ ?_
                            · refine ⟨V, rfl, ?_⟩
                              refine InvC.start (fun q => ?_) (Mod.refl _ _).drew
                              unfold LOf
                              by_cases hq : q < 37 <;> simp [hq]
                            · intro listed xA w1 iA op hsz hI ho hl hpre
                              obtain ⟨zS, rfl, hI⟩ := hI
                              have hilt : iA < listed.size := by rw [hsz]; exact (Array.getElem?_eq_some_iff.1 ho).1
                              have hset := LOf_set hilt
                              have hno := lof_no hilt hl
                              clear hsz hilt hl
                              subst hdS hvS
                              match iA, ho with
                              | 0, ho =>
                                refine wpOp_step ho (fun K' hK => ?_)
                                simp only [List.getElem?_toArray, List.getElem?_cons_zero, List.getElem?_cons_succ, Option.some.injEq] at ho
                                subst ho
                                unfold frS
                                go_simp
                                refine hK _ _ ⟨upd zS 124 (.pointer (some ⟨bE, 0, none⟩)), by simp [frS, upd, hV14, hV9, hV18, hV21, hV20, hV11, hV19, hV8], ?_⟩
                                rw [hset]
                                exact hI.put (i := 0) (by decide) (by decide) (by decide) (by decide) rfl rfl
                              | 1, ho =>
                                refine wpOp_step ho (fun K' hK => ?_)
                                simp only [List.getElem?_toArray, List.getElem?_cons_zero, List.getElem?_cons_succ, Option.some.injEq] at ho
                                subst ho
                                have q124 : zS 124 = (.pointer (some ⟨bE, 0, none⟩)) := hI.v 0 (by decide) (by decide) (pre_of hpre 0 (by rfl))
                                have yx0 := hI.m.cellAt id x0.out
                                unfold frS
                                go_simp
                                refine hK _ _ ⟨upd zS 125 (.int .i64 z.kind), by simp [frS, upd, hV14, hV9, hV18, hV21, hV20, hV11, hV19, hV8, q124], ?_⟩
                                rw [hset]
                                exact hI.put (i := 1) (by decide) (by decide) (by decide) (by decide) rfl rfl
                              | 2, ho =>
                                refine wpOp_step ho (fun K' hK => ?_)
                                simp only [List.getElem?_toArray, List.getElem?_cons_zero, List.getElem?_cons_succ, Option.some.injEq] at ho
                                subst ho
                                have q125 : zS 125 = (.int .i64 z.kind) := hI.v 1 (by decide) (by decide) (pre_of hpre 1 (by rfl))
                                unfold frS
                                go_simp
                                refine hK _ _ ⟨upd zS 126 (.bool false), by simp [frS, upd, hV14, hV9, hV18, hV21, hV20, hV11, hV19, hV8, q125], ?_⟩
                                rw [hset]
                                exact hI.put (i := 2) (by decide) (by decide) (by decide) (by decide) rfl rfl
                              | 3, ho =>
                                refine wpOp_step ho (fun K' hK => ?_)
                                simp only [List.getElem?_toArray, List.getElem?_cons_zero, List.getElem?_cons_succ, Option.some.injEq] at ho
                                subst ho
                                have q126 : zS 126 = (.bool false) := hI.v 2 (by decide) (by decide) (pre_of hpre 2 (by rfl))
                                unfold frS
                                go_simp
                                refine hK _ _ ⟨upd zS 127 (.bool false), by simp [frS, upd, hV14, hV9, hV18, hV21, hV20, hV11, hV19, hV8, q126], ?_⟩
                                rw [hset]
                                exact hI.put (i := 3) (by decide) (by decide) (by decide) (by decide) rfl rfl
                              | 4, ho =>
                                refine wpOp_step ho (fun K' hK => ?_)
                                simp only [List.getElem?_toArray, List.getElem?_cons_zero, List.getElem?_cons_succ, Option.some.injEq] at ho
                                subst ho
                                have q127 : zS 127 = (.bool false) := hI.v 3 (by decide) (by decide) (pre_of hpre 3 (by rfl))
                                unfold frS
                                go_simp
                                refine hK _ _ ⟨upd zS 128 (.int .u64 (d'.draw : Int)), by simp [frS, upd, hV14, hV9, hV18, hV21, hV20, hV11, hV19, hV8, q127], ?_⟩
                                rw [hset]
                                exact hI.put (i := 4) (by decide) (by decide) (by decide) (by decide) rfl rfl
                              | 5, ho =>
                                refine wpOp_step ho (fun K' hK => ?_)
                                simp only [List.getElem?_toArray, List.getElem?_cons_zero, List.getElem?_cons_succ, Option.some.injEq] at ho
                                subst ho
                                have q128 : zS 128 = (.int .u64 (d'.draw : Int)) := hI.v 4 (by decide) (by decide) (pre_of hpre 4 (by rfl))
                                have q127 : zS 127 = (.bool false) := hI.v 3 (by decide) (by decide) (pre_of hpre 3 (by rfl))
                                unfold frS
                                go_simp
                                refine hK _ _ ⟨upd zS 129 (.bool false), by simp [frS, upd, hV14, hV9, hV18, hV21, hV20, hV11, hV19, hV8, q128, q127], ?_⟩
                                rw [hset]
                                exact hI.put (i := 5) (by decide) (by decide) (by decide) (by decide) rfl rfl
                              | 6, ho =>
                                refine wpOp_step ho (fun K' hK => ?_)
                                simp only [List.getElem?_toArray, List.getElem?_cons_zero, List.getElem?_cons_succ, Option.some.injEq] at ho
                                subst ho
                                have q127 : zS 127 = (.bool false) := hI.v 3 (by decide) (by decide) (pre_of hpre 3 (by rfl))
                                have q129 : zS 129 = (.bool false) := hI.v 5 (by decide) (by decide) (pre_of hpre 5 (by rfl))
                                unfold frS
                                go_simp
                                refine hK _ _ ⟨upd zS 130 (.bool false), by simp [frS, upd, hV14, hV9, hV18, hV21, hV20, hV11, hV19, hV8, q127, q129], ?_⟩
                                rw [hset]
                                exact hI.put (i := 6) (by decide) (by decide) (by decide) (by decide) rfl rfl
                              | 7, ho =>
                                refine wpOp_step ho (fun K' hK => ?_)
                                simp only [List.getElem?_toArray, List.getElem?_cons_zero, List.getElem?_cons_succ, Option.some.injEq] at ho
                                subst ho
                                have q130 : zS 130 = (.bool false) := hI.v 6 (by decide) (by decide) (pre_of hpre 6 (by rfl))
                                unfold frS
                                go_simp
                                refine hK _ _ ⟨upd zS 131 (.bool false), by simp [frS, upd, hV14, hV9, hV18, hV21, hV20, hV11, hV19, hV8, q130], ?_⟩
                                rw [hset]
                                exact hI.put (i := 7) (by decide) (by decide) (by decide) (by decide) rfl rfl
                              | 8, ho =>
                                refine wpOp_step ho (fun K' hK => ?_)
                                simp only [List.getElem?_toArray, List.getElem?_cons_zero, List.getElem?_cons_succ, Option.some.injEq] at ho
                                subst ho
                                have q131 : zS 131 = (.bool false) := hI.v 7 (by decide) (by decide) (pre_of hpre 7 (by rfl))
                                unfold frS
                                go_simp
                                refine hK _ _ ⟨upd zS 132 (.pointer (some ⟨sb, 1, none⟩)), by simp [frS, upd, hV14, hV9, hV18, hV21, hV20, hV11, hV19, hV8, q131], ?_⟩
                                rw [hset]
                                exact hI.put (i := 8) (by decide) (by decide) (by decide) (by decide) rfl rfl
                              | 9, ho =>
                                refine wpOp_step ho (fun K' hK => ?_)
                                simp only [List.getElem?_toArray, List.getElem?_cons_zero, List.getElem?_cons_succ, Option.some.injEq] at ho
                                subst ho
                                have q132 : zS 132 = (.pointer (some ⟨sb, 1, none⟩)) := hI.v 8 (by decide) (by decide) (pre_of hpre 8 (by rfl))
                                have q131 : zS 131 = (.bool false) := hI.v 7 (by decide) (by decide) (pre_of hpre 7 (by rfl))
                                have ys1 := hI.m.cellAt id s1.out
                                unfold frS
                                go_simp
                                refine hK _ _ ⟨upd zS 133 (.slice (some ⟨e1, 0, none⟩) sj.2.length m1), by simp [frS, upd, hV14, hV9, hV18, hV21, hV20, hV11, hV19, hV8, q132, q131], ?_⟩
                                rw [hset]
                                exact hI.put (i := 9) (by decide) (by decide) (by decide) (by decide) rfl rfl
                              | 10, ho =>
                                refine wpOp_step ho (fun K' hK => ?_)
                                simp only [List.getElem?_toArray, List.getElem?_cons_zero, List.getElem?_cons_succ, Option.some.injEq] at ho
                                subst ho
                                have q133 : zS 133 = (.slice (some ⟨e1, 0, none⟩) sj.2.length m1) := hI.v 9 (by decide) (by decide) (pre_of hpre 9 (by rfl))
                                have q131 : zS 131 = (.bool false) := hI.v 7 (by decide) (by decide) (pre_of hpre 7 (by rfl))
                                have hcv := conv_bytes (w := w1) (cap := m1) rfl (hby.out.mod hI.m id)
                                rw [hst.out] at hcv
                                unfold frS
                                go_simp
                                refine hK _ _ ⟨upd zS 134 (.string (strB qb)), by simp [frS, upd, hV14, hV9, hV18, hV21, hV20, hV11, hV19, hV8, q133, q131], ?_⟩
                                rw [hset]
                                exact hI.put (i := 10) (by decide) (by decide) (by decide) (by decide) rfl rfl
                              | 11, ho =>
                                refine wpOp_step ho (fun K' hK => ?_)
                                simp only [List.getElem?_toArray, List.getElem?_cons_zero, List.getElem?_cons_succ, Option.some.injEq] at ho
                                subst ho
                                have q131 : zS 131 = (.bool false) := hI.v 7 (by decide) (by decide) (pre_of hpre 7 (by rfl))
                                unfold frS
                                go_simp
                                refine hK _ _ ⟨upd zS 135 (.int .u64 (d'.draw : Int)), by simp [frS, upd, hV14, hV9, hV18, hV21, hV20, hV11, hV19, hV8, q131], ?_⟩
                                rw [hset]
                                exact hI.put (i := 11) (by decide) (by decide) (by decide) (by decide) rfl rfl
                              | 12, ho =>
                                refine wpOp_step ho (fun K' hK => ?_)
                                simp only [List.getElem?_toArray, List.getElem?_cons_zero, List.getElem?_cons_succ, Option.some.injEq] at ho
                                subst ho
                                have q135 : zS 135 = (.int .u64 (d'.draw : Int)) := hI.v 11 (by decide) (by decide) (pre_of hpre 11 (by rfl))
                                have q131 : zS 131 = (.bool false) := hI.v 7 (by decide) (by decide) (pre_of hpre 7 (by rfl))
                                unfold frS
                                go_simp
                                refine (hqy.out w1).mono ?_
                                rintro e wa ⟨v, rfl, hown, hma⟩
                                obtain ⟨g9, c9, hv, hg9, _, _, hb9⟩ := own_data hown hqb.out (by rw [hqn.out]; decide)
                                subst hv
                                refine hK _ _ ⟨upd zS 136 (.slice (some ⟨g9, 0, none⟩) qb.length c9), by simp [frS, upd, hV14, hV9, hV18, hV21, hV20, hV11, hV19, hV8, q135, q131], ?_⟩
                                rw [hset]
                                exact hI.call (by decide) (by decide) rfl hma ⟨g9, c9, rfl, hb9⟩
                              | 13, ho =>
                                refine wpOp_step ho (fun K' hK => ?_)
                                simp only [List.getElem?_toArray, List.getElem?_cons_zero, List.getElem?_cons_succ, Option.some.injEq] at ho
                                subst ho
                                have q131 : zS 131 = (.bool false) := hI.v 7 (by decide) (by decide) (pre_of hpre 7 (by rfl))
                                obtain ⟨g9, c9, q136, hb9⟩ := hI.r (pre_of hpre 12 (by rfl))
                                have hcv := conv_bytes (w := w1) (cap := c9) rfl hb9
                                have q136 : zS 136 = .slice (some ⟨g9, 0, none⟩) qb.length c9 := q136
                                clear hb9
                                unfold frS
                                go_simp
                                refine hK _ _ ⟨upd zS 137 (.string (strB qb)), by simp [frS, upd, hV14, hV9, hV18, hV21, hV20, hV11, hV19, hV8, q131, q136], ?_⟩
                                rw [hset]
                                exact hI.put (i := 13) (by decide) (by decide) (by decide) (by decide) rfl rfl
                              | 14, ho =>
                                refine wpOp_step ho (fun K' hK => ?_)
                                simp only [List.getElem?_toArray, List.getElem?_cons_zero, List.getElem?_cons_succ, Option.some.injEq] at ho
                                subst ho
                                have q134 : zS 134 = (.string (strB qb)) := hI.v 10 (by decide) (by decide) (pre_of hpre 10 (by rfl))
                                have q137 : zS 137 = (.string (strB qb)) := hI.v 13 (by decide) (by decide) (pre_of hpre 13 (by rfl))
                                have q131 : zS 131 = (.bool false) := hI.v 7 (by decide) (by decide) (pre_of hpre 7 (by rfl))
                                unfold frS
                                go_simp
                                refine hK _ _ ⟨upd zS 138 (.bool false), by simp [frS, upd, hV14, hV9, hV18, hV21, hV20, hV11, hV19, hV8, q134, q137, q131], ?_⟩
                                rw [hset]
                                exact hI.put (i := 14) (by decide) (by decide) (by decide) (by decide) rfl rfl
                              | 15, ho =>
                                refine wpOp_step ho (fun K' hK => ?_)
                                simp only [List.getElem?_toArray, List.getElem?_cons_zero, List.getElem?_cons_succ, Option.some.injEq] at ho
                                subst ho
                                have q131 : zS 131 = (.bool false) := hI.v 7 (by decide) (by decide) (pre_of hpre 7 (by rfl))
                                have q138 : zS 138 = (.bool false) := hI.v 14 (by decide) (by decide) (pre_of hpre 14 (by rfl))
                                unfold frS
                                go_simp
                                refine hK _ _ ⟨upd zS 139 (.bool false), by simp [frS, upd, hV14, hV9, hV18, hV21, hV20, hV11, hV19, hV8, q131, q138], ?_⟩
                                rw [hset]
                                exact hI.put (i := 15) (by decide) (by decide) (by decide) (by decide) rfl rfl
                              | 16, ho =>
                                refine wpOp_step ho (fun K' hK => ?_)
                                simp only [List.getElem?_toArray, List.getElem?_cons_zero, List.getElem?_cons_succ, Option.some.injEq] at ho
                                subst ho
                                have q139 : zS 139 = (.bool false) := hI.v 15 (by decide) (by decide) (pre_of hpre 15 (by rfl))
                                unfold frS
                                go_simp
                                refine hK _ _ ⟨upd zS 140 (.bool false), by simp [frS, upd, hV14, hV9, hV18, hV21, hV20, hV11, hV19, hV8, q139], ?_⟩
                                rw [hset]
                                exact hI.put (i := 16) (by decide) (by decide) (by decide) (by decide) rfl rfl
                              | 17, ho =>
                                refine wpOp_step ho (fun K' hK => ?_)
                                simp only [List.getElem?_toArray, List.getElem?_cons_zero, List.getElem?_cons_succ, Option.some.injEq] at ho
                                subst ho
                                have q140 : zS 140 = (.bool false) := hI.v 16 (by decide) (by decide) (pre_of hpre 16 (by rfl))
                                unfold frS
                                go_simp
                                refine hK _ _ ⟨upd zS 141 (.bool true), by simp [frS, upd, hV14, hV9, hV18, hV21, hV20, hV11, hV19, hV8, q140], ?_⟩
                                rw [hset]
                                exact hI.put (i := 17) (by decide) (by decide) (by decide) (by decide) rfl rfl
                              | 18, ho =>
                                refine wpOp_step ho (fun K' hK => ?_)
                                simp only [List.getElem?_toArray, List.getElem?_cons_zero, List.getElem?_cons_succ, Option.some.injEq] at ho
                                subst ho
                                have q141 : zS 141 = (.bool true) := hI.v 17 (by decide) (by decide) (pre_of hpre 17 (by rfl))
                                have q140 : zS 140 = (.bool false) := hI.v 16 (by decide) (by decide) (pre_of hpre 16 (by rfl))
                                unfold frS
                                go_simp
                                refine hK _ _ ⟨upd zS 142 (.bool false), by simp [frS, upd, hV14, hV9, hV18, hV21, hV20, hV11, hV19, hV8, q141, q140], ?_⟩
                                rw [hset]
                                exact hI.put (i := 18) (by decide) (by decide) (by decide) (by decide) rfl rfl
                              | 19, ho =>
                                refine wpOp_step ho (fun K' hK => ?_)
                                simp only [List.getElem?_toArray, List.getElem?_cons_zero, List.getElem?_cons_succ, Option.some.injEq] at ho
                                subst ho
                                have q140 : zS 140 = (.bool false) := hI.v 16 (by decide) (by decide) (pre_of hpre 16 (by rfl))
                                have q142 : zS 142 = (.bool false) := hI.v 18 (by decide) (by decide) (pre_of hpre 18 (by rfl))
                                unfold frS
                                go_simp
                                refine hK _ _ ⟨upd zS 143 (.bool false), by simp [frS, upd, hV14, hV9, hV18, hV21, hV20, hV11, hV19, hV8, q140, q142], ?_⟩
                                rw [hset]
                                exact hI.put (i := 19) (by decide) (by decide) (by decide) (by decide) rfl rfl
                              | 20, ho =>
                                refine wpOp_step ho (fun K' hK => ?_)
                                simp only [List.getElem?_toArray, List.getElem?_cons_zero, List.getElem?_cons_succ, Option.some.injEq] at ho
                                subst ho
                                have q143 : zS 143 = (.bool false) := hI.v 19 (by decide) (by decide) (pre_of hpre 19 (by rfl))
                                unfold frS
                                go_simp
                                refine hK _ _ ⟨upd zS 144 (.bool false), by simp [frS, upd, hV14, hV9, hV18, hV21, hV20, hV11, hV19, hV8, q143], ?_⟩
                                rw [hset]
                                exact hI.put (i := 20) (by decide) (by decide) (by decide) (by decide) rfl rfl
                              | 21, ho =>
                                refine wpOp_step ho (fun K' hK => ?_)
                                simp only [List.getElem?_toArray, List.getElem?_cons_zero, List.getElem?_cons_succ, Option.some.injEq] at ho
                                subst ho
                                have q144 : zS 144 = (.bool false) := hI.v 20 (by decide) (by decide) (pre_of hpre 20 (by rfl))
                                unfold frS
                                go_simp
                                refine hK _ _ ⟨upd zS 145 (.bool true), by simp [frS, upd, hV14, hV9, hV18, hV21, hV20, hV11, hV19, hV8, q144], ?_⟩
                                rw [hset]
                                exact hI.put (i := 21) (by decide) (by decide) (by decide) (by decide) rfl rfl
                              | 22, ho =>
                                refine wpOp_step ho (fun K' hK => ?_)
                                simp only [List.getElem?_toArray, List.getElem?_cons_zero, List.getElem?_cons_succ, Option.some.injEq] at ho
                                subst ho
                                have q145 : zS 145 = (.bool true) := hI.v 21 (by decide) (by decide) (pre_of hpre 21 (by rfl))
                                have q144 : zS 144 = (.bool false) := hI.v 20 (by decide) (by decide) (pre_of hpre 20 (by rfl))
                                unfold frS
                                go_simp
                                refine hK _ _ ⟨upd zS 146 (.bool true), by simp [frS, upd, hV14, hV9, hV18, hV21, hV20, hV11, hV19, hV8, q145, q144], ?_⟩
                                rw [hset]
                                exact hI.put (i := 22) (by decide) (by decide) (by decide) (by decide) rfl rfl
                              | 23, ho =>
                                refine wpOp_step ho (fun K' hK => ?_)
                                simp only [List.getElem?_toArray, List.getElem?_cons_zero, List.getElem?_cons_succ, Option.some.injEq] at ho
                                subst ho
                                have q146 : zS 146 = (.bool true) := hI.v 22 (by decide) (by decide) (pre_of hpre 22 (by rfl))
                                unfold frS
                                go_simp
                                refine hK _ _ ⟨upd zS 147 (.pointer (some ⟨bE, 1, none⟩)), by simp [frS, upd, hV14, hV9, hV18, hV21, hV20, hV11, hV19, hV8, q146], ?_⟩
                                rw [hset]
                                exact hI.put (i := 23) (by decide) (by decide) (by decide) (by decide) rfl rfl
                              | 24, ho =>
                                refine wpOp_step ho (fun K' hK => ?_)
                                simp only [List.getElem?_toArray, List.getElem?_cons_zero, List.getElem?_cons_succ, Option.some.injEq] at ho
                                subst ho
                                have q147 : zS 147 = (.pointer (some ⟨bE, 1, none⟩)) := hI.v 23 (by decide) (by decide) (pre_of hpre 23 (by rfl))
                                have q146 : zS 146 = (.bool true) := hI.v 22 (by decide) (by decide) (pre_of hpre 22 (by rfl))
                                have yx1 := hI.m.cellAt id x1.out
                                unfold frS
                                go_simp
                                refine hK _ _ ⟨upd zS 148 (.int .i64 z.h), by simp [frS, upd, hV14, hV9, hV18, hV21, hV20, hV11, hV19, hV8, q147, q146], ?_⟩
                                rw [hset]
                                exact hI.put (i := 24) (by decide) (by decide) (by decide) (by decide) rfl rfl
                              | 25, ho =>
                                refine wpOp_step ho (fun K' hK => ?_)
                                simp only [List.getElem?_toArray, List.getElem?_cons_zero, List.getElem?_cons_succ, Option.some.injEq] at ho
                                subst ho
                                have q146 : zS 146 = (.bool true) := hI.v 22 (by decide) (by decide) (pre_of hpre 22 (by rfl))
                                unfold frS
                                go_simp
                                refine hK _ _ ⟨upd zS 149 (.int .i64 atv), by simp [frS, upd, hV14, hV9, hV18, hV21, hV20, hV11, hV19, hV8, q146], ?_⟩
                                rw [hset]
                                exact hI.put (i := 25) (by decide) (by decide) (by decide) (by decide) rfl rfl
                              | 26, ho =>
                                refine wpOp_step ho (fun K' hK => ?_)
                                simp only [List.getElem?_toArray, List.getElem?_cons_zero, List.getElem?_cons_succ, Option.some.injEq] at ho
                                subst ho
                                have q148 : zS 148 = (.int .i64 z.h) := hI.v 24 (by decide) (by decide) (pre_of hpre 24 (by rfl))
                                have q149 : zS 149 = (.int .i64 atv) := hI.v 25 (by decide) (by decide) (pre_of hpre 25 (by rfl))
                                have q146 : zS 146 = (.bool true) := hI.v 22 (by decide) (by decide) (pre_of hpre 22 (by rfl))
                                unfold frS
                                go_simp
                                refine hK _ _ ⟨upd zS 150 (.int .i64 (z.h - atv)), by simp [frS, upd, hV14, hV9, hV18, hV21, hV20, hV11, hV19, hV8, q148, q149, q146], ?_⟩
                                rw [hset]
                                exact hI.put (i := 26) (by decide) (by decide) (by decide) (by decide) rfl rfl
                              | 27, ho =>
                                refine wpOp_step ho (fun K' hK => ?_)
                                simp only [List.getElem?_toArray, List.getElem?_cons_zero, List.getElem?_cons_succ, Option.some.injEq] at ho
                                subst ho
                                have q146 : zS 146 = (.bool true) := hI.v 22 (by decide) (by decide) (pre_of hpre 22 (by rfl))
                                unfold frS
                                go_simp
                                refine hK _ _ ⟨upd zS 151 (.int .i64 ls), by simp [frS, upd, hV14, hV9, hV18, hV21, hV20, hV11, hV19, hV8, q146], ?_⟩
                                rw [hset]
                                exact hI.put (i := 27) (by decide) (by decide) (by decide) (by decide) rfl rfl
                              | 28, ho =>
                                refine wpOp_step ho (fun K' hK => ?_)
                                simp only [List.getElem?_toArray, List.getElem?_cons_zero, List.getElem?_cons_succ, Option.some.injEq] at ho
                                subst ho
                                have q150 : zS 150 = (.int .i64 (z.h - atv)) := hI.v 26 (by decide) (by decide) (pre_of hpre 26 (by rfl))
                                have q151 : zS 151 = (.int .i64 ls) := hI.v 27 (by decide) (by decide) (pre_of hpre 27 (by rfl))
                                have q146 : zS 146 = (.bool true) := hI.v 22 (by decide) (by decide) (pre_of hpre 22 (by rfl))
                                unfold frS
                                go_simp
                                refine hK _ _ ⟨upd zS 152 (.bool false), by simp [frS, upd, hV14, hV9, hV18, hV21, hV20, hV11, hV19, hV8, q150, q151, q146], ?_⟩
                                rw [hset]
                                exact hI.put (i := 28) (by decide) (by decide) (by decide) (by decide) rfl rfl
                              | 29, ho =>
                                refine wpOp_step ho (fun K' hK => ?_)
                                simp only [List.getElem?_toArray, List.getElem?_cons_zero, List.getElem?_cons_succ, Option.some.injEq] at ho
                                subst ho
                                have q146 : zS 146 = (.bool true) := hI.v 22 (by decide) (by decide) (pre_of hpre 22 (by rfl))
                                have q152 : zS 152 = (.bool false) := hI.v 28 (by decide) (by decide) (pre_of hpre 28 (by rfl))
                                have q144 : zS 144 = (.bool false) := hI.v 20 (by decide) (by decide) (pre_of hpre 20 (by rfl))
                                unfold frS
                                go_simp
                                refine hK _ _ ⟨upd zS 153 (.bool false), by simp [frS, upd, hV14, hV9, hV18, hV21, hV20, hV11, hV19, hV8, q146, q152, q144], ?_⟩
                                rw [hset]
                                exact hI.put (i := 29) (by decide) (by decide) (by decide) (by decide) rfl rfl
                              | 30, ho =>
                                refine wpOp_step ho (fun K' hK => ?_)
                                simp only [List.getElem?_toArray, List.getElem?_cons_zero, List.getElem?_cons_succ, Option.some.injEq] at ho
                                subst ho
                                have q144 : zS 144 = (.bool false) := hI.v 20 (by decide) (by decide) (pre_of hpre 20 (by rfl))
                                have q153 : zS 153 = (.bool false) := hI.v 29 (by decide) (by decide) (pre_of hpre 29 (by rfl))
                                unfold frS
                                go_simp
                                refine hK _ _ ⟨upd zS 154 (.bool false), by simp [frS, upd, hV14, hV9, hV18, hV21, hV20, hV11, hV19, hV8, q144, q153], ?_⟩
                                rw [hset]
                                exact hI.put (i := 30) (by decide) (by decide) (by decide) (by decide) rfl rfl
                              | 31, ho =>
                                refine wpOp_step ho (fun K' hK => ?_)
                                simp only [List.getElem?_toArray, List.getElem?_cons_zero, List.getElem?_cons_succ, Option.some.injEq] at ho
                                subst ho
                                have q154 : zS 154 = (.bool false) := hI.v 30 (by decide) (by decide) (pre_of hpre 30 (by rfl))
                                unfold frS
                                go_simp
                                refine hK _ _ ⟨upd zS 155 (.bool false), by simp [frS, upd, hV14, hV9, hV18, hV21, hV20, hV11, hV19, hV8, q154], ?_⟩
                                rw [hset]
                                exact hI.put (i := 31) (by decide) (by decide) (by decide) (by decide) rfl rfl
                              | 32, ho =>
                                refine wpOp_step ho (fun K' hK => ?_)
                                simp only [List.getElem?_toArray, List.getElem?_cons_zero, List.getElem?_cons_succ, Option.some.injEq] at ho
                                subst ho
                                have q155 : zS 155 = (.bool false) := hI.v 31 (by decide) (by decide) (pre_of hpre 31 (by rfl))
                                unfold frS
                                go_simp
                                refine hK _ _ ⟨upd zS 156 (.map (some (bl + 1))), by simp [frS, upd, hV14, hV9, hV18, hV21, hV20, hV11, hV19, hV8, q155], ?_⟩
                                rw [hset]
                                exact hI.put (i := 32) (by decide) (by decide) (by decide) (by decide) rfl rfl
                              | 33, ho =>
                                refine wpOp_step ho (fun K' hK => ?_)
                                simp only [List.getElem?_toArray, List.getElem?_cons_zero, List.getElem?_cons_succ, Option.some.injEq] at ho
                                subst ho
                                have q155 : zS 155 = (.bool false) := hI.v 31 (by decide) (by decide) (pre_of hpre 31 (by rfl))
                                unfold frS
                                go_simp
                                refine hK _ _ ⟨upd zS 157 (.pointer (some ⟨sb, 0, none⟩)), by simp [frS, upd, hV14, hV9, hV18, hV21, hV20, hV11, hV19, hV8, q155], ?_⟩
                                rw [hset]
                                exact hI.put (i := 33) (by decide) (by decide) (by decide) (by decide) rfl rfl
                              | 34, ho =>
                                refine wpOp_step ho (fun K' hK => ?_)
                                simp only [List.getElem?_toArray, List.getElem?_cons_zero, List.getElem?_cons_succ, Option.some.injEq] at ho
                                subst ho
                                have q157 : zS 157 = (.pointer (some ⟨sb, 0, none⟩)) := hI.v 33 (by decide) (by decide) (pre_of hpre 33 (by rfl))
                                have q155 : zS 155 = (.bool false) := hI.v 31 (by decide) (by decide) (pre_of hpre 31 (by rfl))
                                have ys0 := hI.m.cellAt id s0.out
                                unfold frS
                                go_simp
                                refine hK _ _ ⟨upd zS 158 (.int .i64 sj.1), by simp [frS, upd, hV14, hV9, hV18, hV21, hV20, hV11, hV19, hV8, q157, q155], ?_⟩
                                rw [hset]
                                exact hI.put (i := 34) (by decide) (by decide) (by decide) (by decide) rfl rfl
                              | 35, ho =>
                                refine wpOp_step ho (fun K' hK => ?_)
                                simp only [List.getElem?_toArray, List.getElem?_cons_zero, List.getElem?_cons_succ, Option.some.injEq] at ho
                                subst ho
                                have q156 : zS 156 = (.map (some (bl + 1))) := hI.v 32 (by decide) (by decide) (pre_of hpre 32 (by rfl))
                                have q158 : zS 158 = (.int .i64 sj.1) := hI.v 34 (by decide) (by decide) (pre_of hpre 34 (by rfl))
                                have q155 : zS 155 = (.bool false) := hI.v 31 (by decide) (by decide) (pre_of hpre 31 (by rfl))
                                have hlk := hlo.out w1 hI.m
                                unfold frS
                                go_simp
                                refine hK _ _ ⟨upd zS 159 (.bool false), by simp [frS, upd, hV14, hV9, hV18, hV21, hV20, hV11, hV19, hV8, q156, q158, q155], ?_⟩
                                rw [hset]
                                exact hI.put (i := 35) (by decide) (by decide) (by decide) (by decide) rfl rfl
                              | 36, ho =>
                                refine wpOp_step ho (fun K' hK => ?_)
                                simp only [List.getElem?_toArray, List.getElem?_cons_zero, List.getElem?_cons_succ, Option.some.injEq] at ho
                                subst ho
                                have q155 : zS 155 = (.bool false) := hI.v 31 (by decide) (by decide) (pre_of hpre 31 (by rfl))
                                have q159 : zS 159 = (.bool false) := hI.v 35 (by decide) (by decide) (pre_of hpre 35 (by rfl))
                                unfold frS
                                go_simp
                                refine hK _ _ ⟨upd zS 160 (.bool false), by simp [frS, upd, hV14, hV9, hV18, hV21, hV20, hV11, hV19, hV8, q155, q159], ?_⟩
                                rw [hset]
                                exact hI.put (i := 36) (by decide) (by decide) (by decide) (by decide) rfl rfl
                            · intro listed xA wa hsz hall hI
                              obtain ⟨zS, rfl, hI⟩ := hI
                              have hA : ∀ i, i < 37 → LOf listed i = true := fun i hi => by
                                have := hall i hi
                                unfold LOf
                                have h12 : i < listed.size := by rw [hsz]; exact hi
                                simpa [h12] using this
                              subst hdS hvS
                              have e160 : zS 160 = .bool false := hI.v 36 (by decide) (by decide) (hA 36 (by decide))
                              have hma := hide hI.m
                              clear hall hsz
                              rw [hputs.out, puts_run _ _ 124 161 [124, 125, 126, 127, 128, 129, 130, 131, 132, 133, 134, 135, 136, 137, 138, 139, 140, 141, 142, 143, 144, 145, 146, 147, 148, 149, 150, 151, 152, 153, 154, 155, 156, 157, 158, 159, 160] _ (by decide) (by decide) (Nat.le_of_ble_eq_true rfl)]
                              clear hputs
                              simp only [List.take_succ_cons, List.take_zero, List.drop_succ_cons, List.drop_zero, List.map_cons, List.map_nil, List.cons_append, List.nil_append, e160]
                              clear hI hA e160 hV14 hV9 hV18 hV21 hV20 hV11 hV19 hV8 hV
                              replace x0 := x0.out
                              replace s0 := s0.out
                              replace s1 := s1.out
                              replace x1 := x1.out
                              have hmN := hide (hm5.out.trans ((hmi.out.trans hma.out).mono (fun _ _ f => f.elim)))
                              have hoN := hide (ho5.out.quiet (hmi.out.trans hma.out))
                              have x1a := hma.out.cellAt id x1
                              have s0a := hma.out.cellAt id s0
                              obtain ⟨o, hrun, hmpn⟩ := (hmp5.out.quiet (hmi.out.trans hma.out)).put sj.1 z.h f1
                              rw [← sentBy_step z.h O.sends last hsj.out] at hmpn
                              have hmo : Mod (fun k => k = bl) wa (setO wa bl o) := setO_mod o
                              have hon := hide (hoN.out.put hmo (fun k e => by subst e; exact hmpn.ln) (fun k e => by subst e; exact hmpn.ll))
                              replace hmpn := hide hmpn
                              replace hmN := hide (hmN.out.trans hmo)
                              replace hmo := hide hmo
                              clear x0 x1 s0 s1 hlo hqy hby hoN ho5 hmp5 hm5
                              go_wp2_with fail
                              go_roundw
                              case rel => exact ⟨j + 1, rfl, hjn, hon.out, hmpn.out, hmN.out⟩
                              case measure =>
                                show O.sends.length - ((j : Int) + 1).toNat < O.sends.length - (j : Int).toNat
                                omega
                          | false =>
                           as_aux_lemma =>
                            clear hwz
                            clear hcv1 hl1
                            replace hk0 := hide hk0
                            replace x0 := hide x0
                            replace s0 := hide s0
                            replace s1 := hide s1
                            replace x1 := hide x1
                            refine wp_frame frS 169 [124, 125, 126, 127, 128, 129, 130, 131, 132, 133, 134, 135, 136, 137, 138, 139, 140, 141, 142, 143, 144, 145, 146, 147, 148, 149, 150, 151, 152, 153, 154, 155, 156, 157, 158, 159, 160] (fun V z => rfl) _ rfl rfl (fun V hV hputs => ?_)
                            have hV14 : V 14 = at0 bE := (hV.out 14).trans rfl
                            have hV9 : V 9 = .int .u64 (d'.draw : Int) := (hV.out 9).trans rfl
                            have hV18 : V 18 = at0 sb := (hV.out 18).trans rfl
                            have hV21 : V 21 = .bool true := (hV.out 21).trans rfl
                            have hV20 : V 20 = .bool false := (hV.out 20).trans rfl
                            have hV11 : V 11 = .map (some (bl + 1)) := (hV.out 11).trans rfl
                            obtain ⟨dS, hdS⟩ : ∃ dS : List Nat, dS = [124, 125, 126, 127, 128, 129, 130, 131, 132, 133, 134, 135, 136, 137, 138, 139, 140, 141, 142, 143, 144, 145, 146, 147, 148, 149, 150, 151, 152, 153, 154, 155, 156, 157, 158, 159, 160] := ⟨_, rfl⟩
                            obtain ⟨vS, hvS⟩ : ∃ vS : List Value, vS = [(.pointer (some ⟨bE, 0, none⟩)), (.int .i64 z.kind), (.bool false), (.bool false), (.int .u64 (d'.draw : Int)), (.bool false), (.bool false), (.bool false), (.pointer (some ⟨sb, 1, none⟩)), (.slice (some ⟨e1, 0, none⟩) sj.2.length m1), (.string (strB qb)), (.int .u64 (d'.draw : Int)), undef, (.string (strB qb)), (.bool false), (.bool false), (.bool false), (.bool true), (.bool false), (.bool false), (.bool false), (.bool false), (.bool false), undef, undef, undef, undef, undef, undef, (.bool false), (.bool false), (.bool false), (.map (some (bl + 1))), (.pointer (some ⟨sb, 0, none⟩)), (.int .i64 sj.1), (.bool false), (.bool false)] := ⟨_, rfl⟩
                            refine wp_region_inv (by kernel_rfl) (by kernel_rfl) (fun listed xA wA => ∃ zS, xA = frS V zS ∧ InvC dS vS 12 (fun w v => ∃ g c, v = .slice (some ⟨g, 0, none⟩) qb.length c ∧ BytesAt w g 0 qb) wr (LOf listed) zS wA) ?_ ?_ ?_
                            · refine ⟨V, rfl, ?_⟩
                              refine InvC.start (fun q => ?_) (Mod.refl _ _).drew
                              unfold LOf
                              by_cases hq : q < 37 <;> simp [hq]
                            · intro listed xA w1 iA op hsz hI ho hl hpre
                              obtain ⟨zS, rfl, hI⟩ := hI
                              have hilt : iA < listed.size := by rw [hsz]; exact (Array.getElem?_eq_some_iff.1 ho).1
                              have hset := LOf_set hilt
                              have hno := lof_no hilt hl
                              clear hsz hilt hl
                              subst hdS hvS
                              match iA, ho with
                              | 0, ho =>
                                refine wpOp_step ho (fun K' hK => ?_)
                                simp only [List.getElem?_toArray, List.getElem?_cons_zero, List.getElem?_cons_succ, Option.some.injEq] at ho
                                subst ho
                                unfold frS
                                go_simp
                                refine hK _ _ ⟨upd zS 124 (.pointer (some ⟨bE, 0, none⟩)), by simp [frS, upd, hV14, hV9, hV18, hV21, hV20, hV11], ?_⟩
                                rw [hset]
                                exact hI.put (i := 0) (by decide) (by decide) (by decide) (by decide) rfl rfl
                              | 1, ho =>
                                refine wpOp_step ho (fun K' hK => ?_)
                                simp only [List.getElem?_toArray, List.getElem?_cons_zero, List.getElem?_cons_succ, Option.some.injEq] at ho
                                subst ho
                                have q124 : zS 124 = (.pointer (some ⟨bE, 0, none⟩)) := hI.v 0 (by decide) (by decide) (pre_of hpre 0 (by rfl))
                                have yx0 := hI.m.cellAt id x0.out
                                unfold frS
                                go_simp
                                refine hK _ _ ⟨upd zS 125 (.int .i64 z.kind), by simp [frS, upd, hV14, hV9, hV18, hV21, hV20, hV11, q124], ?_⟩
                                rw [hset]
                                exact hI.put (i := 1) (by decide) (by decide) (by decide) (by decide) rfl rfl
                              | 2, ho =>
                                refine wpOp_step ho (fun K' hK => ?_)
                                simp only [List.getElem?_toArray, List.getElem?_cons_zero, List.getElem?_cons_succ, Option.some.injEq] at ho
                                subst ho
                                have q125 : zS 125 = (.int .i64 z.kind) := hI.v 1 (by decide) (by decide) (pre_of hpre 1 (by rfl))
                                unfold frS
                                go_simp
                                refine hK _ _ ⟨upd zS 126 (.bool false), by simp [frS, upd, hV14, hV9, hV18, hV21, hV20, hV11, q125], ?_⟩
                                rw [hset]
                                exact hI.put (i := 2) (by decide) (by decide) (by decide) (by decide) rfl rfl
                              | 3, ho =>
                                refine wpOp_step ho (fun K' hK => ?_)
                                simp only [List.getElem?_toArray, List.getElem?_cons_zero, List.getElem?_cons_succ, Option.some.injEq] at ho
                                subst ho
                                have q126 : zS 126 = (.bool false) := hI.v 2 (by decide) (by decide) (pre_of hpre 2 (by rfl))
                                unfold frS
                                go_simp
                                refine hK _ _ ⟨upd zS 127 (.bool false), by simp [frS, upd, hV14, hV9, hV18, hV21, hV20, hV11, q126], ?_⟩
                                rw [hset]
                                exact hI.put (i := 3) (by decide) (by decide) (by decide) (by decide) rfl rfl
                              | 4, ho =>
                                refine wpOp_step ho (fun K' hK => ?_)
                                simp only [List.getElem?_toArray, List.getElem?_cons_zero, List.getElem?_cons_succ, Option.some.injEq] at ho
                                subst ho
                                have q127 : zS 127 = (.bool false) := hI.v 3 (by decide) (by decide) (pre_of hpre 3 (by rfl))
                                unfold frS
                                go_simp
                                refine hK _ _ ⟨upd zS 128 (.int .u64 (d'.draw : Int)), by simp [frS, upd, hV14, hV9, hV18, hV21, hV20, hV11, q127], ?_⟩
                                rw [hset]
                                exact hI.put (i := 4) (by decide) (by decide) (by decide) (by decide) rfl rfl
                              | 5, ho =>
                                refine wpOp_step ho (fun K' hK => ?_)
                                simp only [List.getElem?_toArray, List.getElem?_cons_zero, List.getElem?_cons_succ, Option.some.injEq] at ho
                                subst ho
                                have q128 : zS 128 = (.int .u64 (d'.draw : Int)) := hI.v 4 (by decide) (by decide) (pre_of hpre 4 (by rfl))
                                have q127 : zS 127 = (.bool false) := hI.v 3 (by decide) (by decide) (pre_of hpre 3 (by rfl))
                                unfold frS
                                go_simp
                                refine hK _ _ ⟨upd zS 129 (.bool false), by simp [frS, upd, hV14, hV9, hV18, hV21, hV20, hV11, q128, q127], ?_⟩
                                rw [hset]
                                exact hI.put (i := 5) (by decide) (by decide) (by decide) (by decide) rfl rfl
                              | 6, ho =>
                                refine wpOp_step ho (fun K' hK => ?_)
                                simp only [List.getElem?_toArray, List.getElem?_cons_zero, List.getElem?_cons_succ, Option.some.injEq] at ho
                                subst ho
                                have q127 : zS 127 = (.bool false) := hI.v 3 (by decide) (by decide) (pre_of hpre 3 (by rfl))
                                have q129 : zS 129 = (.bool false) := hI.v 5 (by decide) (by decide) (pre_of hpre 5 (by rfl))
                                unfold frS
                                go_simp
                                refine hK _ _ ⟨upd zS 130 (.bool false), by simp [frS, upd, hV14, hV9, hV18, hV21, hV20, hV11, q127, q129], ?_⟩
                                rw [hset]
                                exact hI.put (i := 6) (by decide) (by decide) (by decide) (by decide) rfl rfl
                              | 7, ho =>
                                refine wpOp_step ho (fun K' hK => ?_)
                                simp only [List.getElem?_toArray, List.getElem?_cons_zero, List.getElem?_cons_succ, Option.some.injEq] at ho
                                subst ho
                                have q130 : zS 130 = (.bool false) := hI.v 6 (by decide) (by decide) (pre_of hpre 6 (by rfl))
                                unfold frS
                                go_simp
                                refine hK _ _ ⟨upd zS 131 (.bool false), by simp [frS, upd, hV14, hV9, hV18, hV21, hV20, hV11, q130], ?_⟩
                                rw [hset]
                                exact hI.put (i := 7) (by decide) (by decide) (by decide) (by decide) rfl rfl
                              | 8, ho =>
                                refine wpOp_step ho (fun K' hK => ?_)
                                simp only [List.getElem?_toArray, List.getElem?_cons_zero, List.getElem?_cons_succ, Option.some.injEq] at ho
                                subst ho
                                have q131 : zS 131 = (.bool false) := hI.v 7 (by decide) (by decide) (pre_of hpre 7 (by rfl))
                                unfold frS
                                go_simp
                                refine hK _ _ ⟨upd zS 132 (.pointer (some ⟨sb, 1, none⟩)), by simp [frS, upd, hV14, hV9, hV18, hV21, hV20, hV11, q131], ?_⟩
                                rw [hset]
                                exact hI.put (i := 8) (by decide) (by decide) (by decide) (by decide) rfl rfl
                              | 9, ho =>
                                refine wpOp_step ho (fun K' hK => ?_)
                                simp only [List.getElem?_toArray, List.getElem?_cons_zero, List.getElem?_cons_succ, Option.some.injEq] at ho
                                subst ho
                                have q132 : zS 132 = (.pointer (some ⟨sb, 1, none⟩)) := hI.v 8 (by decide) (by decide) (pre_of hpre 8 (by rfl))
                                have q131 : zS 131 = (.bool false) := hI.v 7 (by decide) (by decide) (pre_of hpre 7 (by rfl))
                                have ys1 := hI.m.cellAt id s1.out
                                unfold frS
                                go_simp
                                refine hK _ _ ⟨upd zS 133 (.slice (some ⟨e1, 0, none⟩) sj.2.length m1), by simp [frS, upd, hV14, hV9, hV18, hV21, hV20, hV11, q132, q131], ?_⟩
                                rw [hset]
                                exact hI.put (i := 9) (by decide) (by decide) (by decide) (by decide) rfl rfl
                              | 10, ho =>
                                refine wpOp_step ho (fun K' hK => ?_)
                                simp only [List.getElem?_toArray, List.getElem?_cons_zero, List.getElem?_cons_succ, Option.some.injEq] at ho
                                subst ho
                                have q133 : zS 133 = (.slice (some ⟨e1, 0, none⟩) sj.2.length m1) := hI.v 9 (by decide) (by decide) (pre_of hpre 9 (by rfl))
                                have q131 : zS 131 = (.bool false) := hI.v 7 (by decide) (by decide) (pre_of hpre 7 (by rfl))
                                have hcv := conv_bytes (w := w1) (cap := m1) rfl (hby.out.mod hI.m id)
                                rw [hst.out] at hcv
                                unfold frS
                                go_simp
                                refine hK _ _ ⟨upd zS 134 (.string (strB qb)), by simp [frS, upd, hV14, hV9, hV18, hV21, hV20, hV11, q133, q131], ?_⟩
                                rw [hset]
                                exact hI.put (i := 10) (by decide) (by decide) (by decide) (by decide) rfl rfl
                              | 11, ho =>
                                refine wpOp_step ho (fun K' hK => ?_)
                                simp only [List.getElem?_toArray, List.getElem?_cons_zero, List.getElem?_cons_succ, Option.some.injEq] at ho
                                subst ho
                                have q131 : zS 131 = (.bool false) := hI.v 7 (by decide) (by decide) (pre_of hpre 7 (by rfl))
                                unfold frS
                                go_simp
                                refine hK _ _ ⟨upd zS 135 (.int .u64 (d'.draw : Int)), by simp [frS, upd, hV14, hV9, hV18, hV21, hV20, hV11, q131], ?_⟩
                                rw [hset]
                                exact hI.put (i := 11) (by decide) (by decide) (by decide) (by decide) rfl rfl
                              | 12, ho =>
                                refine wpOp_step ho (fun K' hK => ?_)
                                simp only [List.getElem?_toArray, List.getElem?_cons_zero, List.getElem?_cons_succ, Option.some.injEq] at ho
                                subst ho
                                have q135 : zS 135 = (.int .u64 (d'.draw : Int)) := hI.v 11 (by decide) (by decide) (pre_of hpre 11 (by rfl))
                                have q131 : zS 131 = (.bool false) := hI.v 7 (by decide) (by decide) (pre_of hpre 7 (by rfl))
                                unfold frS
                                go_simp
                                refine (hqy.out w1).mono ?_
                                rintro e wa ⟨v, rfl, hown, hma⟩
                                obtain ⟨g9, c9, hv, hg9, _, _, hb9⟩ := own_data hown hqb.out (by rw [hqn.out]; decide)
                                subst hv
                                refine hK _ _ ⟨upd zS 136 (.slice (some ⟨g9, 0, none⟩) qb.length c9), by simp [frS, upd, hV14, hV9, hV18, hV21, hV20, hV11, q135, q131], ?_⟩
                                rw [hset]
                                exact hI.call (by decide) (by decide) rfl hma ⟨g9, c9, rfl, hb9⟩
                              | 13, ho =>
                                refine wpOp_step ho (fun K' hK => ?_)
                                simp only [List.getElem?_toArray, List.getElem?_cons_zero, List.getElem?_cons_succ, Option.some.injEq] at ho
                                subst ho
                                have q131 : zS 131 = (.bool false) := hI.v 7 (by decide) (by decide) (pre_of hpre 7 (by rfl))
                                obtain ⟨g9, c9, q136, hb9⟩ := hI.r (pre_of hpre 12 (by rfl))
                                have hcv := conv_bytes (w := w1) (cap := c9) rfl hb9
                                have q136 : zS 136 = .slice (some ⟨g9, 0, none⟩) qb.length c9 := q136
                                clear hb9
                                unfold frS
                                go_simp
                                refine hK _ _ ⟨upd zS 137 (.string (strB qb)), by simp [frS, upd, hV14, hV9, hV18, hV21, hV20, hV11, q131, q136], ?_⟩
                                rw [hset]
                                exact hI.put (i := 13) (by decide) (by decide) (by decide) (by decide) rfl rfl
                              | 14, ho =>
                                refine wpOp_step ho (fun K' hK => ?_)
                                simp only [List.getElem?_toArray, List.getElem?_cons_zero, List.getElem?_cons_succ, Option.some.injEq] at ho
                                subst ho
                                have q134 : zS 134 = (.string (strB qb)) := hI.v 10 (by decide) (by decide) (pre_of hpre 10 (by rfl))
                                have q137 : zS 137 = (.string (strB qb)) := hI.v 13 (by decide) (by decide) (pre_of hpre 13 (by rfl))
                                have q131 : zS 131 = (.bool false) := hI.v 7 (by decide) (by decide) (pre_of hpre 7 (by rfl))
                                unfold frS
                                go_simp
                                refine hK _ _ ⟨upd zS 138 (.bool false), by simp [frS, upd, hV14, hV9, hV18, hV21, hV20, hV11, q134, q137, q131], ?_⟩
                                rw [hset]
                                exact hI.put (i := 14) (by decide) (by decide) (by decide) (by decide) rfl rfl
                              | 15, ho =>
                                refine wpOp_step ho (fun K' hK => ?_)
                                simp only [List.getElem?_toArray, List.getElem?_cons_zero, List.getElem?_cons_succ, Option.some.injEq] at ho
                                subst ho
                                have q131 : zS 131 = (.bool false) := hI.v 7 (by decide) (by decide) (pre_of hpre 7 (by rfl))
                                have q138 : zS 138 = (.bool false) := hI.v 14 (by decide) (by decide) (pre_of hpre 14 (by rfl))
                                unfold frS
                                go_simp
                                refine hK _ _ ⟨upd zS 139 (.bool false), by simp [frS, upd, hV14, hV9, hV18, hV21, hV20, hV11, q131, q138], ?_⟩
                                rw [hset]
                                exact hI.put (i := 15) (by decide) (by decide) (by decide) (by decide) rfl rfl
                              | 16, ho =>
                                refine wpOp_step ho (fun K' hK => ?_)
                                simp only [List.getElem?_toArray, List.getElem?_cons_zero, List.getElem?_cons_succ, Option.some.injEq] at ho
                                subst ho
                                have q139 : zS 139 = (.bool false) := hI.v 15 (by decide) (by decide) (pre_of hpre 15 (by rfl))
                                unfold frS
                                go_simp
                                refine hK _ _ ⟨upd zS 140 (.bool false), by simp [frS, upd, hV14, hV9, hV18, hV21, hV20, hV11, q139], ?_⟩
                                rw [hset]
                                exact hI.put (i := 16) (by decide) (by decide) (by decide) (by decide) rfl rfl
                              | 17, ho =>
                                refine wpOp_step ho (fun K' hK => ?_)
                                simp only [List.getElem?_toArray, List.getElem?_cons_zero, List.getElem?_cons_succ, Option.some.injEq] at ho
                                subst ho
                                have q140 : zS 140 = (.bool false) := hI.v 16 (by decide) (by decide) (pre_of hpre 16 (by rfl))
                                unfold frS
                                go_simp
                                refine hK _ _ ⟨upd zS 141 (.bool true), by simp [frS, upd, hV14, hV9, hV18, hV21, hV20, hV11, q140], ?_⟩
                                rw [hset]
                                exact hI.put (i := 17) (by decide) (by decide) (by decide) (by decide) rfl rfl
                              | 18, ho =>
                                refine wpOp_step ho (fun K' hK => ?_)
                                simp only [List.getElem?_toArray, List.getElem?_cons_zero, List.getElem?_cons_succ, Option.some.injEq] at ho
                                subst ho
                                have q141 : zS 141 = (.bool true) := hI.v 17 (by decide) (by decide) (pre_of hpre 17 (by rfl))
                                have q140 : zS 140 = (.bool false) := hI.v 16 (by decide) (by decide) (pre_of hpre 16 (by rfl))
                                unfold frS
                                go_simp
                                refine hK _ _ ⟨upd zS 142 (.bool false), by simp [frS, upd, hV14, hV9, hV18, hV21, hV20, hV11, q141, q140], ?_⟩
                                rw [hset]
                                exact hI.put (i := 18) (by decide) (by decide) (by decide) (by decide) rfl rfl
                              | 19, ho =>
                                refine wpOp_step ho (fun K' hK => ?_)
                                simp only [List.getElem?_toArray, List.getElem?_cons_zero, List.getElem?_cons_succ, Option.some.injEq] at ho
                                subst ho
                                have q140 : zS 140 = (.bool false) := hI.v 16 (by decide) (by decide) (pre_of hpre 16 (by rfl))
                                have q142 : zS 142 = (.bool false) := hI.v 18 (by decide) (by decide) (pre_of hpre 18 (by rfl))
                                unfold frS
                                go_simp
                                refine hK _ _ ⟨upd zS 143 (.bool false), by simp [frS, upd, hV14, hV9, hV18, hV21, hV20, hV11, q140, q142], ?_⟩
                                rw [hset]
                                exact hI.put (i := 19) (by decide) (by decide) (by decide) (by decide) rfl rfl
                              | 20, ho =>
                                refine wpOp_step ho (fun K' hK => ?_)
                                simp only [List.getElem?_toArray, List.getElem?_cons_zero, List.getElem?_cons_succ, Option.some.injEq] at ho
                                subst ho
                                have q143 : zS 143 = (.bool false) := hI.v 19 (by decide) (by decide) (pre_of hpre 19 (by rfl))
                                unfold frS
                                go_simp
                                refine hK _ _ ⟨upd zS 144 (.bool false), by simp [frS, upd, hV14, hV9, hV18, hV21, hV20, hV11, q143], ?_⟩
                                rw [hset]
                                exact hI.put (i := 20) (by decide) (by decide) (by decide) (by decide) rfl rfl
                              | 21, ho =>
                                refine wpOp_step ho (fun K' hK => ?_)
                                simp only [List.getElem?_toArray, List.getElem?_cons_zero, List.getElem?_cons_succ, Option.some.injEq] at ho
                                subst ho
                                have q144 : zS 144 = (.bool false) := hI.v 20 (by decide) (by decide) (pre_of hpre 20 (by rfl))
                                unfold frS
                                go_simp
                                refine hK _ _ ⟨upd zS 145 (.bool false), by simp [frS, upd, hV14, hV9, hV18, hV21, hV20, hV11, q144], ?_⟩
                                rw [hset]
                                exact hI.put (i := 21) (by decide) (by decide) (by decide) (by decide) rfl rfl
                              | 22, ho =>
                                refine wpOp_step ho (fun K' hK => ?_)
                                simp only [List.getElem?_toArray, List.getElem?_cons_zero, List.getElem?_cons_succ, Option.some.injEq] at ho
                                subst ho
                                have q145 : zS 145 = (.bool false) := hI.v 21 (by decide) (by decide) (pre_of hpre 21 (by rfl))
                                have q144 : zS 144 = (.bool false) := hI.v 20 (by decide) (by decide) (pre_of hpre 20 (by rfl))
                                unfold frS
                                go_simp
                                refine hK _ _ ⟨upd zS 146 (.bool false), by simp [frS, upd, hV14, hV9, hV18, hV21, hV20, hV11, q145, q144], ?_⟩
                                rw [hset]
                                exact hI.put (i := 22) (by decide) (by decide) (by decide) (by decide) rfl rfl
                              | 23, ho =>
                                refine wpOp_step ho (fun K' hK => ?_)
                                simp only [List.getElem?_toArray, List.getElem?_cons_zero, List.getElem?_cons_succ, Option.some.injEq] at ho
                                subst ho
                                have q146 : zS 146 = (.bool false) := hI.v 22 (by decide) (by decide) (pre_of hpre 22 (by rfl))
                                unfold frS
                                go_simp
                                refine hK _ _ ⟨upd zS 147 undef, by simp [frS, upd, hV14, hV9, hV18, hV21, hV20, hV11, q146], ?_⟩
                                rw [hset]
                                exact hI.put (i := 23) (by decide) (by decide) (by decide) (by decide) rfl rfl
                              | 24, ho =>
                                refine wpOp_step ho (fun K' hK => ?_)
                                simp only [List.getElem?_toArray, List.getElem?_cons_zero, List.getElem?_cons_succ, Option.some.injEq] at ho
                                subst ho
                                have q146 : zS 146 = (.bool false) := hI.v 22 (by decide) (by decide) (pre_of hpre 22 (by rfl))
                                have yx1 := hI.m.cellAt id x1.out
                                unfold frS
                                go_simp
                                refine hK _ _ ⟨upd zS 148 undef, by simp [frS, upd, hV14, hV9, hV18, hV21, hV20, hV11, q146], ?_⟩
                                rw [hset]
                                exact hI.put (i := 24) (by decide) (by decide) (by decide) (by decide) rfl rfl
                              | 25, ho =>
                                refine wpOp_step ho (fun K' hK => ?_)
                                simp only [List.getElem?_toArray, List.getElem?_cons_zero, List.getElem?_cons_succ, Option.some.injEq] at ho
                                subst ho
                                have q146 : zS 146 = (.bool false) := hI.v 22 (by decide) (by decide) (pre_of hpre 22 (by rfl))
                                unfold frS
                                go_simp
                                refine hK _ _ ⟨upd zS 149 undef, by simp [frS, upd, hV14, hV9, hV18, hV21, hV20, hV11, q146], ?_⟩
                                rw [hset]
                                exact hI.put (i := 25) (by decide) (by decide) (by decide) (by decide) rfl rfl
                              | 26, ho =>
                                refine wpOp_step ho (fun K' hK => ?_)
                                simp only [List.getElem?_toArray, List.getElem?_cons_zero, List.getElem?_cons_succ, Option.some.injEq] at ho
                                subst ho
                                have q146 : zS 146 = (.bool false) := hI.v 22 (by decide) (by decide) (pre_of hpre 22 (by rfl))
                                unfold frS
                                go_simp
                                refine hK _ _ ⟨upd zS 150 undef, by simp [frS, upd, hV14, hV9, hV18, hV21, hV20, hV11, q146], ?_⟩
                                rw [hset]
                                exact hI.put (i := 26) (by decide) (by decide) (by decide) (by decide) rfl rfl
                              | 27, ho =>
                                refine wpOp_step ho (fun K' hK => ?_)
                                simp only [List.getElem?_toArray, List.getElem?_cons_zero, List.getElem?_cons_succ, Option.some.injEq] at ho
                                subst ho
                                have q146 : zS 146 = (.bool false) := hI.v 22 (by decide) (by decide) (pre_of hpre 22 (by rfl))
                                unfold frS
                                go_simp
                                refine hK _ _ ⟨upd zS 151 undef, by simp [frS, upd, hV14, hV9, hV18, hV21, hV20, hV11, q146], ?_⟩
                                rw [hset]
                                exact hI.put (i := 27) (by decide) (by decide) (by decide) (by decide) rfl rfl
                              | 28, ho =>
                                refine wpOp_step ho (fun K' hK => ?_)
                                simp only [List.getElem?_toArray, List.getElem?_cons_zero, List.getElem?_cons_succ, Option.some.injEq] at ho
                                subst ho
                                have q146 : zS 146 = (.bool false) := hI.v 22 (by decide) (by decide) (pre_of hpre 22 (by rfl))
                                unfold frS
                                go_simp
                                refine hK _ _ ⟨upd zS 152 undef, by simp [frS, upd, hV14, hV9, hV18, hV21, hV20, hV11, q146], ?_⟩
                                rw [hset]
                                exact hI.put (i := 28) (by decide) (by decide) (by decide) (by decide) rfl rfl
                              | 29, ho =>
                                refine wpOp_step ho (fun K' hK => ?_)
                                simp only [List.getElem?_toArray, List.getElem?_cons_zero, List.getElem?_cons_succ, Option.some.injEq] at ho
                                subst ho
                                have q146 : zS 146 = (.bool false) := hI.v 22 (by decide) (by decide) (pre_of hpre 22 (by rfl))
                                have q144 : zS 144 = (.bool false) := hI.v 20 (by decide) (by decide) (pre_of hpre 20 (by rfl))
                                unfold frS
                                go_simp
                                refine hK _ _ ⟨upd zS 153 (.bool false), by simp [frS, upd, hV14, hV9, hV18, hV21, hV20, hV11, q146, q144], ?_⟩
                                rw [hset]
                                exact hI.put (i := 29) (by decide) (by decide) (by decide) (by decide) rfl rfl
                              | 30, ho =>
                                refine wpOp_step ho (fun K' hK => ?_)
                                simp only [List.getElem?_toArray, List.getElem?_cons_zero, List.getElem?_cons_succ, Option.some.injEq] at ho
                                subst ho
                                have q144 : zS 144 = (.bool false) := hI.v 20 (by decide) (by decide) (pre_of hpre 20 (by rfl))
                                have q153 : zS 153 = (.bool false) := hI.v 29 (by decide) (by decide) (pre_of hpre 29 (by rfl))
                                unfold frS
                                go_simp
                                refine hK _ _ ⟨upd zS 154 (.bool false), by simp [frS, upd, hV14, hV9, hV18, hV21, hV20, hV11, q144, q153], ?_⟩
                                rw [hset]
                                exact hI.put (i := 30) (by decide) (by decide) (by decide) (by decide) rfl rfl
                              | 31, ho =>
                                refine wpOp_step ho (fun K' hK => ?_)
                                simp only [List.getElem?_toArray, List.getElem?_cons_zero, List.getElem?_cons_succ, Option.some.injEq] at ho
                                subst ho
                                have q154 : zS 154 = (.bool false) := hI.v 30 (by decide) (by decide) (pre_of hpre 30 (by rfl))
                                unfold frS
                                go_simp
                                refine hK _ _ ⟨upd zS 155 (.bool false), by simp [frS, upd, hV14, hV9, hV18, hV21, hV20, hV11, q154], ?_⟩
                                rw [hset]
                                exact hI.put (i := 31) (by decide) (by decide) (by decide) (by decide) rfl rfl
                              | 32, ho =>
                                refine wpOp_step ho (fun K' hK => ?_)
                                simp only [List.getElem?_toArray, List.getElem?_cons_zero, List.getElem?_cons_succ, Option.some.injEq] at ho
                                subst ho
                                have q155 : zS 155 = (.bool false) := hI.v 31 (by decide) (by decide) (pre_of hpre 31 (by rfl))
                                unfold frS
                                go_simp
                                refine hK _ _ ⟨upd zS 156 (.map (some (bl + 1))), by simp [frS, upd, hV14, hV9, hV18, hV21, hV20, hV11, q155], ?_⟩
                                rw [hset]
                                exact hI.put (i := 32) (by decide) (by decide) (by decide) (by decide) rfl rfl
                              | 33, ho =>
                                refine wpOp_step ho (fun K' hK => ?_)
                                simp only [List.getElem?_toArray, List.getElem?_cons_zero, List.getElem?_cons_succ, Option.some.injEq] at ho
                                subst ho
                                have q155 : zS 155 = (.bool false) := hI.v 31 (by decide) (by decide) (pre_of hpre 31 (by rfl))
                                unfold frS
                                go_simp
                                refine hK _ _ ⟨upd zS 157 (.pointer (some ⟨sb, 0, none⟩)), by simp [frS, upd, hV14, hV9, hV18, hV21, hV20, hV11, q155], ?_⟩
                                rw [hset]
                                exact hI.put (i := 33) (by decide) (by decide) (by decide) (by decide) rfl rfl
                              | 34, ho =>
                                refine wpOp_step ho (fun K' hK => ?_)
                                simp only [List.getElem?_toArray, List.getElem?_cons_zero, List.getElem?_cons_succ, Option.some.injEq] at ho
                                subst ho
                                have q157 : zS 157 = (.pointer (some ⟨sb, 0, none⟩)) := hI.v 33 (by decide) (by decide) (pre_of hpre 33 (by rfl))
                                have q155 : zS 155 = (.bool false) := hI.v 31 (by decide) (by decide) (pre_of hpre 31 (by rfl))
                                have ys0 := hI.m.cellAt id s0.out
                                unfold frS
                                go_simp
                                refine hK _ _ ⟨upd zS 158 (.int .i64 sj.1), by simp [frS, upd, hV14, hV9, hV18, hV21, hV20, hV11, q157, q155], ?_⟩
                                rw [hset]
                                exact hI.put (i := 34) (by decide) (by decide) (by decide) (by decide) rfl rfl
                              | 35, ho =>
                                refine wpOp_step ho (fun K' hK => ?_)
                                simp only [List.getElem?_toArray, List.getElem?_cons_zero, List.getElem?_cons_succ, Option.some.injEq] at ho
                                subst ho
                                have q156 : zS 156 = (.map (some (bl + 1))) := hI.v 32 (by decide) (by decide) (pre_of hpre 32 (by rfl))
                                have q158 : zS 158 = (.int .i64 sj.1) := hI.v 34 (by decide) (by decide) (pre_of hpre 34 (by rfl))
                                have q155 : zS 155 = (.bool false) := hI.v 31 (by decide) (by decide) (pre_of hpre 31 (by rfl))
                                have hlk := hlo.out w1 hI.m
                                unfold frS
                                go_simp
                                refine hK _ _ ⟨upd zS 159 (.bool false), by simp [frS, upd, hV14, hV9, hV18, hV21, hV20, hV11, q156, q158, q155], ?_⟩
                                rw [hset]
                                exact hI.put (i := 35) (by decide) (by decide) (by decide) (by decide) rfl rfl
                              | 36, ho =>
                                refine wpOp_step ho (fun K' hK => ?_)
                                simp only [List.getElem?_toArray, List.getElem?_cons_zero, List.getElem?_cons_succ, Option.some.injEq] at ho
                                subst ho
                                have q155 : zS 155 = (.bool false) := hI.v 31 (by decide) (by decide) (pre_of hpre 31 (by rfl))
                                have q159 : zS 159 = (.bool false) := hI.v 35 (by decide) (by decide) (pre_of hpre 35 (by rfl))
                                unfold frS
                                go_simp
                                refine hK _ _ ⟨upd zS 160 (.bool false), by simp [frS, upd, hV14, hV9, hV18, hV21, hV20, hV11, q155, q159], ?_⟩
                                rw [hset]
                                exact hI.put (i := 36) (by decide) (by decide) (by decide) (by decide) rfl rfl
                            · intro listed xA wa hsz hall hI
                              obtain ⟨zS, rfl, hI⟩ := hI
                              have hA : ∀ i, i < 37 → LOf listed i = true := fun i hi => by
                                have := hall i hi
                                unfold LOf
                                have h12 : i < listed.size := by rw [hsz]; exact hi
                                simpa [h12] using this
                              subst hdS hvS
                              have e160 : zS 160 = .bool false := hI.v 36 (by decide) (by decide) (hA 36 (by decide))
                              have hma := hide hI.m
                              clear hall hsz
                              rw [hputs.out, puts_run _ _ 124 161 [124, 125, 126, 127, 128, 129, 130, 131, 132, 133, 134, 135, 136, 137, 138, 139, 140, 141, 142, 143, 144, 145, 146, 147, 148, 149, 150, 151, 152, 153, 154, 155, 156, 157, 158, 159, 160] _ (by decide) (by decide) (Nat.le_of_ble_eq_true rfl)]
                              clear hputs
                              simp only [List.take_succ_cons, List.take_zero, List.drop_succ_cons, List.drop_zero, List.map_cons, List.map_nil, List.cons_append, List.nil_append, e160]
                              clear hI hA e160 hV14 hV9 hV18 hV21 hV20 hV11 hV
                              replace x0 := x0.out
                              replace s0 := s0.out
                              replace s1 := s1.out
                              replace x1 := x1.out
                              have hmN := hide (hm5.out.trans ((hmi.out.trans hma.out).mono (fun _ _ f => f.elim)))
                              have hoN := hide (ho5.out.quiet (hmi.out.trans hma.out))
                              have x1a := hma.out.cellAt id x1
                              have s0a := hma.out.cellAt id s0
                              obtain ⟨o, hrun, hmpn⟩ := (hmp5.out.quiet (hmi.out.trans hma.out)).put sj.1 z.h f1
                              rw [← sentBy_step z.h O.sends last hsj.out] at hmpn
                              have hmo : Mod (fun k => k = bl) wa (setO wa bl o) := setO_mod o
                              have hon := hide (hoN.out.put hmo (fun k e => by subst e; exact hmpn.ln) (fun k e => by subst e; exact hmpn.ll))
                              replace hmpn := hide hmpn
                              replace hmN := hide (hmN.out.trans hmo)
                              replace hmo := hide hmo
                              clear x0 x1 s0 s1 hlo hqy hby hoN ho5 hmp5 hm5
                              go_wp2_with fail
                              go_roundw
                              case rel => exact ⟨j + 1, rfl, hjn, hon.out, hmpn.out, hmN.out⟩
                              case measure =>
                                show O.sends.length - ((j : Int) + 1).toNat < O.sends.length - (j : Int).toNat
                                omega
                    · have hji : ¬ ((j : Int) < O.sends.length) := by omega
                      have hje : O.sends.take j = O.sends := List.take_of_length_le (by omega)
                      rw [hje] at hmp5
                      replace ho5 := hide ho5
                      replace hmp5 := hide hmp5
                      clear hm5 z0
                      go_wp2_with fail
                      go_roundw
                      case rel => exact ⟨k + 1, d'.draw, Q2, d', _, kissed', rfl, rfl, hkn, hok2.out.dr, hb2, hok2.out, hcn2.out, hdc2.out, rfl, hkn3.out, ho5.out, hmp5.out⟩
                      case measure =>
                        show n - ((k : Int) + 1).toNat < n - (k : Int).toNat
                        omega
        · have hb0 : (er != 0) = true := by simpa using h0
          have hdd2 : d' = d ∧ O = out0 := by rw [← hd'.out, ← hO.out, hno0.out h0]; exact ⟨rfl, rfl⟩
          have hOn : O.sends.length = 0 := by rw [hdd2.2]; rfl
          obtain ⟨hdd2, -⟩ := hdd2
          replace hdd2 := hide hdd2
          rw [hOn] at y0
          go_wp2_with fail
          go_roundw
          case rel => exact ⟨k + 1, dr, Q2, d', last, kissed, rfl, rfl, hkn, hdr.out, hb2, hok2.out, hcn2.out, hdc2.out, by rw [hdd2.out]; exact hdd.out, by rw [hdd2.out]; exact hkn0.out, ht2.out, hmp2.out⟩
          case measure =>
            show n - ((k : Int) + 1).toNat < n - (k : Int).toNat
            omega
      · have hkf : ¬ ((k : Int) < n) := by omega
        have hmz := hide (hm1.out.trans ht.old)
        replace ht := hide ht
        clear hm3
        go_wp2_with fail
        refine (hal.out _ hmz.out).mono ?_
        rintro e w8 ⟨rfl, hm8⟩
        replace hmz := hide (hmz.out.trans hm8)
        clear hm8
        go_wp2_with fail
        go_ret
        exact ⟨rfl, hmz.out⟩
end Go.Proofs.YtpjfiplejhbdfaaGreatDoor.daemonSends
