/- A config's lines in any order, with remarks and empty lines between, are the same config; each left out, or laid twice, is told. No condition. -/
import Derived.Test.YtdcmjjinmnbaoaaGreatDoorCgI
import Derived.Deep.DeepCutAuto
namespace Go.Proofs.YtdcmjjinmnbaoaaGreatDoor.confLines
open Go.ChangeShapes Go.WideShapes Go.ChangeAt Go.RowKit Go.Proofs.YtdcmjjinmnbaoaaGreatDoor
set_option linter.unusedVariables false

set_option maxRecDepth 100000 in
set_option maxHeartbeats 32000000 in
theorem walk (a : Cfg) (pa : Option Addr) (ca : Nat) (v : Int) (hv0 : 0 ≤ v) (hv1 : v ≤ 255) (w : World) (ia : IntsL w pa a.srv) (la : a.srv.length ≤ ca) (hL : LaidN w) (hmax : ∃ m, w.cell? ⟨1, 0, none⟩ = some (.int .i64 m)) :
    Calls Tryz.prog 3 #[a.val pa ca, .int .u8 v] w fun e w' => e = .returned (.bool true) ∧ Mod NoB w w' := by
  have hmw : Mod NoB w (w.alloc (.cells #[.slice pa a.srv.length ca, .int .i64 a.q, .int .i64 a.l, .int .i64 a.m, .int .i64 a.d, .int .i64 a.s] 24)) := (Mod.refl _ _).alloc _
  have hb0 := heap_alloc_new w (.cells #[.slice pa a.srv.length ca, .int .i64 a.q, .int .i64 a.l, .int .i64 a.m, .int .i64 a.d, .int .i64 a.s] 24)
  obtain ⟨W1, hW1⟩ : ∃ W1, w.alloc (.cells #[.slice pa a.srv.length ca, .int .i64 a.q, .int .i64 a.l, .int .i64 a.m, .int .i64 a.d, .int .i64 a.s] 24) = W1 := ⟨_, rfl⟩
  rw [hW1] at hmw hb0
  replace hL := hide hL
  have hm : Hid (Mod NoB w W1) := hide hmw
  replace ia := hide (ia.mod0 hmw)
  obtain ⟨a0, a1, a2, a3, a4, a5, -⟩ := six_of hb0
  replace hW1 := hide hW1
  replace hb0 := hide hb0
  clear hmw
  go_enter Tryz.func3, Tryz.ntmps3
  go_upto_region 1 with (fail)
  rw [hW1.out]
  by_cases h1 : 100 < a.srv.length
  · skip
    go_wp2_with fail
    refine (calive_any _ (hL.out.mod hm.out)).mono ?_
    rintro e w3 ⟨rfl, hm2⟩
    replace hm := hide (hm.out.trans hm2)
    clear hm2
    go_wp2
    go_ret
    exact ⟨rfl, hm.out⟩
  · skip
    have hprint := hide (print_any pa a.srv ca a.q a.l a.m a.d a.s W1 ia.out la (by omega) (hL.out.mod hm.out))
    obtain ⟨f, hf⟩ : ∃ f, checkC a = f := ⟨_, rfl⟩
    have hf' : checkR a.srv a.q a.l a.m a.d a.s = f := hf
    unfold PrintOut at hprint
    rw [hf'] at hprint
    obtain ⟨tx, htx⟩ : ∃ tx, (if f = 0 then printT a.srv a.q a.l a.m a.d a.s else []) = tx := ⟨_, rfl⟩
    rw [htx] at hprint
    replace hprint := hide hprint.out
    replace htx := hide htx
    clear hf'
    go_wp2_with fail
    refine hprint.out.mono ?_
    rintro e w2 ⟨rfl, hm2⟩
    replace hb0 := hide (hm2.heap hb0.out id)
    replace ia := hide (ia.out.mod0 hm2)
    replace hm := hide (hm.out.trans hm2)
    clear hm2
    clear a0 a1 a2 a3 a4 a5
    by_cases hf0 : f = 0
    · skip
      have hck : checkC a = 0 := hf.trans hf0
      have hfi := check_fine hck
      have hLok := fine_items hfi
      have h16 := hfi.few
      have h1 := hfi.some_
      have hil := items_len a
      subst hf0
      obtain ⟨L, hLd⟩ : ∃ L, (itemsC a).map textI = L := ⟨_, rfl⟩
      have hLl : L.length = a.srv.length + 4 := by rw [← hLd]; simp [hil]
      have hLn : L ≠ [] := by intro e; rw [e] at hLl; simp at hLl
      have hL10 : ∀ s ∈ L, (10 : UInt8) ∉ s := by rw [← hLd]; intro s hs; obtain ⟨ws, hd⟩ := items_done hLok s hs; exact hd.no10
      have hLs : ∀ s ∈ L, s.length ≤ 30 := by rw [← hLd]; intro s hs; obtain ⟨it, hit, rfl⟩ := List.mem_map.1 hs; exact item_len (hLok it hit)
      have htxL : tx = nl L ++ [10] := by rw [← htx.out]; simp only [if_true]; rw [printT_ends, bodyC_items, hLd, ends_nl10 hLn]
      have hnl : (nl L).length ≤ 100000 := by have := nl_len L (fun s hs => by have := hLs s hs; omega); omega
      subst htxL
      replace hf := hide hf
      obtain ⟨N, hN⟩ : ∃ N, L.length = N := ⟨_, rfl⟩
      obtain ⟨n, hn⟩ : ∃ n, a.srv.length = n := ⟨_, rfl⟩
      obtain ⟨a0, a1, a2, a3, a4, a5, -⟩ := six_of hb0.out
      rw [hn] at a0
      replace hck := hide hck
      replace hfi := hide hfi
      replace hLok := hide hLok
      replace hil := hide hil
      replace hLd := hide hLd
      have hnN : N = n + 4 := by rw [← hN, hLl, hn]
      rw [hn] at h16 h1
      replace hLl := hide hLl
      go_wp2_with fail
      refine (trims_any (nl L) hnl _).mono ?_
      rintro e w3 ⟨rfl, hm2⟩
      replace hb0 := hide (hm2.heap hb0.out id)
      replace ia := hide (ia.out.mod0 hm2)
      replace hm := hide (hm.out.trans hm2)
      clear hm2
      clear a0 a1 a2 a3 a4 a5
      obtain ⟨a0, a1, a2, a3, a4, a5, -⟩ := six_of hb0.out
      rw [hn] at a0
      obtain ⟨mx, hmx⟩ := hmax
      have hsp := splitl_any L mx w3 hLn hL10 hnl (hm.out.cellAt id hmx)
      rw [hN] at hsp
      replace hsp := hide hsp
      replace hmx := hide hmx
      go_wp2_with fail
      refine hsp.out.mono ?_
      rintro e w4' ⟨rfl, rfl⟩
      obtain ⟨g, hg⟩ : ∃ g, w3.heap.size = g := ⟨_, rfl⟩
      obtain ⟨w4, hw4⟩ : ∃ w4, w3.alloc (.cells (L.map fun s => .string (bs s)).toArray 9) = w4 := ⟨_, rfl⟩
      have hm2 : Mod NoB w3 w4 := by rw [← hw4]; exact (Mod.refl _ _).alloc _
      have hlb : w4.heap[g]? = some (.cells (L.map fun s => .string (bs s)).toArray 9 (0, 0)) := by rw [← hw4, ← hg]; exact heap_alloc_new _ _
      rw [hw4, hg]
      replace hw4 := hide hw4
      have hgw : g < w4.heap.size := lt_of_block hlb
      replace hlb := hide hlb
      replace hg := hide hg
      replace hb0 := hide (hm2.heap hb0.out id)
      replace ia := hide (ia.out.mod0 hm2)
      replace hm := hide (hm.out.trans hm2)
      clear hm2
      clear a0 a1 a2 a3 a4 a5
      obtain ⟨a0, a1, a2, a3, a4, a5, -⟩ := six_of hb0.out
      rw [hn] at a0
      have hcell : Hid (∀ (w' : World), Mod NoB w4 w' → ∀ j s, L[j]? = some s → w'.cell? ⟨g, j, none⟩ = some (.string (bs s))) := hide (fun w' h j s hs => h.cellAt id (cell_of_block hlb.out j (by simp [hs])))
      have hN4 : ((N : Int) != (n : Int) + 4) = false := by simp; omega
      have hnN1 : (n : Int) ≤ (N : Int) := by omega
      have hnN2 : ¬ N = n := by omega
      have hn0 : (0 : Int) ≤ (n : Int) := by omega
      have hld : (L.drop n).length = N - n := by simp [hN]
      have hlt : (L.take n).length = n := by simp [hN]; omega
      replace hld := hide hld
      replace hlt := hide hlt
      have h100 : L.length ≤ 100 := by rw [hN]; omega
      replace hN := hide hN
      replace hn := hide hn
      replace h100 := hide h100
      replace hnN := hide hnN
      go_wp2_with fail
      go_region_law ((first | (refine step_app_strs rfl (.tmp 43) (.tmp 46) rfl w4.heap.size (.slice (some ⟨w4.heap.size, 0, none⟩) 0 0) [] rfl ?owna1 ⟨g, n, none⟩ (N - n) (N - n) (L.drop n) rfl hld.out.symm ?cela1 ?bnda1 ?basa1 ?_; (case owna1 => exact ownsRow_mod (own_empty w4 _ (Nat.le_refl _)) ((Mod.refl NoB _).drew) (fun _ f => f.elim)); (case cela1 => (intro j y hy; rw [add_plain]; exact hcell.out _ (((Mod.refl NoB w4).alloc _).drew) (n + j) y (by simpa [List.getElem?_drop] using hy))); (case bnda1 => (have := h100.out; simp; omega)); (case basa1 => first | (simp; done) | (simp; omega)); intro pa1 na1 ca1 wa7 hsta1 hma7; have hmra := hma7; replace hma7 := hide ((((Mod.refl NoB w4).alloc _).drew).into hma7 (fun b h => Or.inr h.1)); replace hsta1 := hide hsta1; replace hmra := hide hmra) | (refine step_app_strs rfl (.tmp 47) (.tmp 50) rfl w4.heap.size (.slice pa1 na1 ca1) (L.drop n) rfl ?owna2 ⟨g, 0, none⟩ n N (L.take n) rfl hlt.out.symm ?cela2 ?bnda2 ?basa2 ?_; (case owna2 => exact hsta1.out); (case cela2 => (intro j y hy; rw [add_plain, Nat.zero_add]; exact hcell.out _ hma7.out j y (by rw [List.getElem?_take] at hy; split at hy; exact hy; cases hy))); (case bnda2 => (have := h100.out; simp; omega)); (case basa2 => (have := hma7.out.size; simp; omega)); intro pa2 na2 ca2 wa8 hsta2 hma8; replace hma8 := hide (hma7.out.into hma8 (fun b h => Or.inr h.1)); replace hsta2 := hide hsta2)))
      have hturn : L.drop n ++ L.take n = (turnI a).map textI := by rw [← hLd.out, ← hn.out]; simp [itemsC, turnI, srvI]
      have hst : StrsAt w4.heap.size wa8 (.slice pa2 na2 ca2) ((turnI a).map textI) := by rw [← hturn]; simpa using hsta2.out
      have hjn : Calls Tryz.prog 9 #[.slice pa2 na2 ca2, .string ⟨#[32, 35, 32, 120, 10, 10]⟩] wa8 fun e w' => e = .returned (.string (bs (Lib.join ((turnI a).map textI) sepX))) ∧ Mod NoB wa8 w' := join_any pa2 na2 ca2 w4.heap.size _ sepX wa8 hst (by simp [turnI, putI]) (by simp [turnI, putI, srvI]; have := hn.out; omega) (by decide) (fun x hx => by obtain ⟨it, hit, rfl⟩ := List.mem_map.1 hx; have := item_len (turn_ok hfi.out it hit); omega)
      obtain ⟨hpl, hpt⟩ := parse_turn hck.out
      have hpp := fun w' (h : LaidN w') => parse_any _ (Nat.le_trans hpl (by omega)) w' h
      rw [hpt] at hpp
      obtain ⟨tj, htj⟩ : ∃ t, Lib.join ((turnI a).map textI) sepX = t := ⟨_, rfl⟩
      rw [htj] at hjn hpp hpl
      have hpp' : ∀ w', LaidN w' → Calls Tryz.prog 8 #[.string (⟨#[35, 32, 97, 32, 114, 101, 109, 97, 114, 107, 10, 10]⟩ ++ bs tj)] w' fun e w'' => ParseOut (a, 0, 0) w' e w'' ∧ Mod NoB w' w'' := fun w' h => by have h2 := hpp w' h; rw [← bs_app] at h2; exact h2
      have hjl : tj.length ≤ 65536 := by simp [headX] at hpl; omega
      replace hjn := hide hjn
      replace hpp' := hide hpp'
      replace htj := hide htj
      clear hturn hst hpl hpt hpp
      have hm2 := hma8.out
      replace hb0 := hide (hm2.heap hb0.out id)
      replace ia := hide (ia.out.mod0 hm2)
      replace hm := hide (hm.out.trans hm2)
      clear hm2
      have hm48 := hide hma8.out
      clear hsta1 hma7 hmra hsta2 hma8
      go_wp2_with fail
      refine hjn.out.mono ?_
      rintro e w9 ⟨rfl, hm2⟩
      replace hm48 := hide (hm48.out.trans hm2)
      replace hb0 := hide (hm2.heap hb0.out id)
      replace ia := hide (ia.out.mod0 hm2)
      replace hm := hide (hm.out.trans hm2)
      clear hm2
      go_wp2_with fail
      refine (hpp'.out _ (hL.out.mod hm.out)).mono ?_
      rintro e w10 ⟨ho, hm2⟩
      obtain ⟨px, cx, rfl, ix, lx, -, -⟩ := ho.vals rfl rfl rfl
      replace ix := hide ix
      clear ho
      replace hm48 := hide (hm48.out.trans hm2)
      replace hb0 := hide (hm2.heap hb0.out id)
      replace ia := hide (ia.out.mod0 hm2)
      replace hm := hide (hm.out.trans hm2)
      clear hm2
      go_upto_region 12 with (fail)
      rw [hn.out]
      obtain ⟨V5, hV5⟩ : ∃ V5, w10.alloc (.cells #[.slice px n cx, .int .i64 a.q, .int .i64 a.l, .int .i64 a.m, .int .i64 a.d, .int .i64 a.s] 24) = V5 := ⟨_, rfl⟩
      have hm2 : Mod NoB w10 V5 := by rw [← hV5]; exact (Mod.refl _ _).alloc _
      have hbx : V5.heap[w10.heap.size]? = some (.cells #[.slice px n cx, .int .i64 a.q, .int .i64 a.l, .int .i64 a.m, .int .i64 a.d, .int .i64 a.s] 24 (0, 0)) := by rw [← hV5]; exact heap_alloc_new _ _
      rw [hV5]
      replace hV5 := hide hV5
      replace hbx := hide hbx
      replace hm48 := hide (hm48.out.trans hm2)
      replace hb0 := hide (hm2.heap hb0.out id)
      replace ia := hide (ia.out.mod0 hm2)
      replace ix := hide (ix.out.mod0 hm2)
      replace hm := hide (hm.out.trans hm2)
      clear hm2
      clear a0 a1 a2 a3 a4 a5
      obtain ⟨a0, a1, a2, a3, a4, a5, -⟩ := six_of hb0.out
      obtain ⟨x0, x1, x2, x3, x4, x5, -⟩ := six_of hbx.out
      rw [hn.out] at a0
      have hsc : sameC a a = true := same_yes (eqI_all rfl fun _ _ => rfl) rfl rfl rfl rfl rfl
      have hss := csame_any a a pa px ca cx V5 ia.out ix.out (by omega)
      rw [hsc] at hss
      change Calls _ _ #[cfgV pa a.srv.length ca a.q a.l a.m a.d a.s, cfgV px a.srv.length cx a.q a.l a.m a.d a.s] _ _ at hss
      rw [hn.out] at hss
      replace hss := hide hss
      clear hsc
      go_wp2_with fail
      refine hss.out.mono ?_
      rintro e w11 ⟨rfl, hm2⟩
      replace hm48 := hide (hm48.out.trans hm2)
      replace hb0 := hide (hm2.heap hb0.out id)
      replace ia := hide (ia.out.mod0 hm2)
      replace ix := hide (ix.out.mod0 hm2)
      replace hm := hide (hm.out.trans hm2)
      clear hm2
      clear a0 a1 a2 a3 a4 a5
      clear x0 x1 x2 x3 x4 x5
      obtain ⟨k, hk⟩ : ∃ k : Nat, v.toNat % N = k := ⟨_, rfl⟩
      have hkN : k < N := by rw [← hk]; exact Nat.mod_lt _ (by omega)
      have hvk2 : v % (N : Int) = (k : Int) := by rw [← hk, Int.natCast_emod, Int.toNat_of_nonneg hv0]
      have hvk : v.tmod (N : Int) = (k : Int) := by rw [Int.tmod_eq_emod_of_nonneg hv0, hvk2]
      replace hk := hide hk
      have hk0 : (0 : Int) ≤ (k : Int) := by omega
      have hkN1 : (k : Int) < (N : Int) := by omega
      have hN0 : ((N : Int) == 0) = false := beq_eq_false_iff_ne.mpr (by omega)
      obtain ⟨sk, hsk⟩ : ∃ s, L[k]? = some s := ⟨L[k]'(by rw [hN.out]; exact hkN), by simp⟩
      have hck11 := hcell.out w11 hm48.out k sk hsk
      have lt11 := lt_of_cell hck11
      go_upto_region 15 with (fail)
      go_cut [14] (fun s14 wx => ∃ p nn c, s14 = .slice p nn c ∧ StrsAt w11.heap.size wx (.slice p nn c) (L ++ [sk]) ∧ Mod NoB w11 wx)
      case first =>
        go_region_law ((first | (refine step_app_strs rfl (.tmp 73) (.tmp 74) rfl w11.heap.size _ [] rfl ?ownb1 ⟨g, 0, none⟩ N N L rfl hN.out.symm ?celb1 ?bndb1 ?basb1 ?_; (case ownb1 => (refine ownsRow_mod (S := NoB) (own_at ?hh1 ?hh2) (by first | exact (Mod.refl NoB _).drew | exact Mod.refl NoB _) (fun _ f => f.elim); (case hh1 => (first | exact heap_alloc_new _ _ | exact one_mid _ _ _ | exact one_top _ _ _)); (case hh2 => first | (simp; done) | (simp; omega)))); (case celb1 => (intro j y hy; rw [add_plain, Nat.zero_add]; exact hcell.out _ (by repeat (first | exact hm48.out | apply Mod.drew | apply Mod.alloc)) j y hy)); (case bndb1 => (have := h100.out; simp; omega)); (case basb1 => first | (simp; done) | (simp; omega)); intro pb1 nb1 cb1 wb7 hstb1 hmb7; have hmrb := hmb7; replace hmb7 := hide (Mod.into (S := NoB) (a := w11) (by repeat (first | exact Mod.refl _ _ | apply Mod.drew | apply Mod.alloc)) hmb7 (fun b h => Or.inr h.1)); replace hstb1 := hide hstb1; replace hmrb := hide hmrb; have hcA := hcell.out wb7 (hm48.out.trans hmb7.out) k sk hsk) | (refine step_app_strs rfl (.tmp 75) (.tmp 80) rfl w11.heap.size (.slice pb1 nb1 cb1) L rfl ?ownb2 ⟨_, 0, none⟩ 1 1 [sk] rfl rfl ?celb2 ?bndb2 ?basb2 ?_; (case ownb2 => exact ownsRow_mod (S := NoB) hstb1.out (by repeat (first | exact Mod.refl _ _ | apply Mod.drew | apply Mod.alloc)) (fun _ f => f.elim)); (case celb2 => (first | exact one_at (heap_alloc_new _ _) | (refine one_at (hmrb.out.heap (one_top _ _ _) ?_); rintro ⟨_, h⟩; change some _ = some _ at h; simp at h; done) | (refine one_at (hmrb.out.heap (one_mid _ _ _) ?_); rintro ⟨_, h⟩; change some _ = some _ at h; simp at h; done))); (case bndb2 => (have := h100.out; simp; omega)); (case basb2 => (have := hmb7.out.size; simp; omega)); intro pb2 nb2 cb2 wb8 hstb2 hmb8; replace hmb8 := hide (Mod.into (S := NoB) (a := w11) (by repeat (first | exact hmb7.out | apply Mod.drew | apply Mod.alloc)) hmb8 (fun b h => Or.inr h.1)); replace hstb2 := hide hstb2)))
        all_goals (go_wp2_with fail; go_meet; exact ⟨_, _, _, rfl, hstb2.out, hmb8.out⟩)
      case rest =>
        obtain ⟨p2, n2, c2, rfl, hst2, hm2⟩ := hcut
        have hn2 : n2 = N + 1 := by have := own_len hst2; rw [this, List.length_append, hN.out]; rfl
        subst hn2
        replace hst2 := hide hst2
        replace hm48 := hide (hm48.out.trans hm2)
        replace hb0 := hide (hm2.heap hb0.out id)
        replace ia := hide (ia.out.mod0 hm2)
        replace ix := hide (ix.out.mod0 hm2)
        replace hm := hide (hm.out.trans hm2)
        clear hm2
        obtain ⟨it, hit, hits⟩ : ∃ it, (itemsC a)[k]? = some it ∧ textI it = sk := by have h := hsk; rw [← hLd.out, List.getElem?_map] at h; cases hx : (itemsC a)[k]? with | none => rw [hx] at h; cases h | some it => rw [hx] at h; exact ⟨it, rfl, by simpa using h⟩
        obtain ⟨htl, htp⟩ := parse_twice hck.out (List.mem_of_getElem? hit)
        rw [hLd.out, hits] at htl htp
        have hjl2 := join_nl (L := L ++ [sk]) (by simp)
        have hskl : sk.length ≤ 30 := hLs sk (List.mem_of_getElem? hsk)
        have hjn2 : Calls Tryz.prog 9 #[.slice p2 (N + 1) c2, .string ⟨#[10]⟩] wc fun e w' => e = .returned (.string (bs (nl (L ++ [sk])))) ∧ Mod NoB wc w' := by have h := join_any p2 (N + 1) c2 _ (L ++ [sk]) [10] wc hst2.out (by simp) (by have := h100.out; simp; omega) (by decide) (fun x hx => by rcases List.mem_append.1 hx with h | h; (have := hLs x h; omega); (simp at h; subst h; omega)); rw [hjl2] at h; exact h
        have hpp2 := fun w' (h : LaidN w') => parse_any _ (Nat.le_trans htl (by omega)) w' h
        obtain ⟨tw, htw⟩ : ∃ t, nl (L ++ [sk]) = t := ⟨_, rfl⟩
        rw [htw] at hjn2 hpp2 htp
        rw [htp] at hpp2
        have hm1' : (((itemsC a).length + 1 : Nat) : Int) = (N : Int) + 1 := by rw [hil.out, hn.out]; have := hnN.out; omega
        replace hjn2 := hide hjn2
        replace hpp2 := hide hpp2
        replace htw := hide htw
        replace hm1' := hide hm1'
        replace hit := hide hit
        replace hits := hide hits
        clear htl htp hjl2
        go_wp2_with fail
        refine hjn2.out.mono ?_
        rintro e w12 ⟨rfl, hm2⟩
        replace hm48 := hide (hm48.out.trans hm2)
        replace hb0 := hide (hm2.heap hb0.out id)
        replace ia := hide (ia.out.mod0 hm2)
        replace ix := hide (ix.out.mod0 hm2)
        replace hm := hide (hm.out.trans hm2)
        clear hm2
        go_wp2_with fail
        refine (hpp2.out _ (hL.out.mod hm.out)).mono ?_
        rintro e w13 ⟨ho, hm2⟩
        obtain ⟨py, cy, rfl, -, -, -, -⟩ := ho.vals (a := cfg0) (n := (N : Int) + 1) (er := 12) rfl hm1'.out rfl
        clear ho
        replace hm48 := hide (hm48.out.trans hm2)
        replace hb0 := hide (hm2.heap hb0.out id)
        replace ia := hide (ia.out.mod0 hm2)
        replace ix := hide (ix.out.mod0 hm2)
        replace hm := hide (hm.out.trans hm2)
        clear hm2
        go_upto_region 17 with (fail)
        obtain ⟨V6, hV6⟩ : ∃ V6, w13.alloc (.cells #[.slice py 0 cy, .int .i64 0, .int .i64 0, .int .i64 0, .int .i64 0, .int .i64 0] 24) = V6 := ⟨_, rfl⟩
        have hm2 : Mod NoB w13 V6 := by rw [← hV6]; exact (Mod.refl _ _).alloc _
        have y0 : V6.cell? ⟨w13.heap.size, 0, none⟩ = some (.slice py 0 cy) := by rw [← hV6]; exact cell_of_block (heap_alloc_new _ _) 0 rfl
        first | rw [hV6] | (change Code.wp _ _ _ _ (w13.alloc (.cells #[.slice py 0 cy, .int .i64 0, .int .i64 0, .int .i64 0, .int .i64 0, .int .i64 0] 24)); rw [hV6])
        replace hV6 := hide hV6
        replace hm48 := hide (hm48.out.trans hm2)
        replace hb0 := hide (hm2.heap hb0.out id)
        replace ia := hide (ia.out.mod0 hm2)
        replace ix := hide (ix.out.mod0 hm2)
        replace hm := hide (hm.out.trans hm2)
        clear hm2
        have hckV := hcell.out V6 hm48.out k sk hsk
        have ltV := lt_of_cell hckV
        have hkle : (k : Int) ≤ (N : Int) := by omega
        have hk1 : IntKind.i64.wrap ((k : Int) + 1) = (k : Int) + 1 := IntWalk.i64_in _ (by have := hnN.out; omega)
        have hltk : (L.take k).length = k := by simp [hN.out]; omega
        have hldk : (L.drop (k + 1)).length = N - (k + 1) := by simp [hN.out]
        replace hltk := hide hltk
        replace hldk := hide hldk
        go_upto_region 19 with (fail)
        go_cut [18] (fun s18 wx => ∃ p nn c, s18 = .slice p nn c ∧ StrsAt V6.heap.size wx (.slice p nn c) (L.take k ++ L.drop (k + 1)) ∧ Mod NoB V6 wx)
        case first =>
          by_cases hlast : k + 1 = N
          · skip
            have hlast2 : (N = k + 1) = True := eq_true hlast.symm
            have hk2 : (k : Int) + 1 ≤ (N : Int) := by omega
            have hk3 : (0 : Int) ≤ (k : Int) + 1 := by omega
            have hle : Hid (N ≤ k + 1) := hide (by omega)
            clear hlast
            go_region_law ((first | (refine step_app_strs rfl (.tmp 103) (.tmp 106) rfl V6.heap.size _ [] rfl ?owne1 ⟨g, 0, none⟩ k N (L.take k) rfl hltk.out.symm ?cele1 ?bnde1 ?base1 ?_; (case owne1 => (refine ownsRow_mod (S := NoB) (own_at ?hh1 ?hh2) (by first | exact (Mod.refl NoB _).drew | exact Mod.refl NoB _) (fun _ f => f.elim); (case hh1 => (first | exact heap_alloc_new _ _ | exact one_mid _ _ _ | exact one_top _ _ _)); (case hh2 => first | (simp; done) | (simp; omega)))); (case cele1 => (intro j y hy; rw [add_plain, Nat.zero_add]; exact hcell.out _ (by repeat (first | exact hm48.out | apply Mod.drew | apply Mod.alloc)) j y (by rw [List.getElem?_take] at hy; split at hy; exact hy; cases hy))); (case bnde1 => (have := h100.out; simp; omega)); (case base1 => first | (simp; done) | (simp; omega)); intro pe1 ne1 ce1 we7 hste1 hme7; have hmre := hme7; replace hme7 := hide (Mod.into (S := NoB) (a := V6) (by repeat (first | exact Mod.refl _ _ | apply Mod.drew | apply Mod.alloc)) hme7 (fun b h => Or.inr h.1)); replace hste1 := hide hste1; replace hmre := hide hmre) | (refine step_app_strs rfl (.tmp 107) (.tmp 111) rfl V6.heap.size (.slice pe1 ne1 ce1) (L.take k) rfl ?owne2 ⟨g, 0, none⟩ (N - (k + 1)) (N - (k + 1)) (L.drop (k + 1)) rfl hldk.out.symm ?cele2 ?bnde2 ?base2 ?_; (case owne2 => exact ownsRow_mod (S := NoB) hste1.out (by repeat (first | exact Mod.refl _ _ | apply Mod.drew | apply Mod.alloc)) (fun _ f => f.elim)); (case cele2 => (intro j y hy; exfalso; have := (List.getElem?_eq_some_iff.1 hy).1; rw [hldk.out] at this; have := hle.out; omega)); (case bnde2 => (have := h100.out; simp; omega)); (case base2 => (have := hme7.out.size; simp; omega)); intro pe2 ne2 ce2 we8 hste2 hme8; replace hme8 := hide (Mod.into (S := NoB) (a := V6) (by repeat (first | exact hme7.out | apply Mod.drew | apply Mod.alloc)) hme8 (fun b h => Or.inr h.1)); replace hste2 := hide hste2)))
            all_goals (go_wp2_with fail; go_meet; exact ⟨_, _, _, rfl, hste2.out, hme8.out⟩)
          · skip
            have hlast2 : ¬ N = k + 1 := fun e => hlast e.symm
            have hk2 : (k : Int) + 1 ≤ (N : Int) := by omega
            have hk3 : (0 : Int) ≤ (k : Int) + 1 := by omega
            clear hlast
            go_region_law ((first | (refine step_app_strs rfl (.tmp 103) (.tmp 106) rfl V6.heap.size _ [] rfl ?ownd1 ⟨g, 0, none⟩ k N (L.take k) rfl hltk.out.symm ?celd1 ?bndd1 ?basd1 ?_; (case ownd1 => (refine ownsRow_mod (S := NoB) (own_at ?hh1 ?hh2) (by first | exact (Mod.refl NoB _).drew | exact Mod.refl NoB _) (fun _ f => f.elim); (case hh1 => (first | exact heap_alloc_new _ _ | exact one_mid _ _ _ | exact one_top _ _ _)); (case hh2 => first | (simp; done) | (simp; omega)))); (case celd1 => (intro j y hy; rw [add_plain, Nat.zero_add]; exact hcell.out _ (by repeat (first | exact hm48.out | apply Mod.drew | apply Mod.alloc)) j y (by rw [List.getElem?_take] at hy; split at hy; exact hy; cases hy))); (case bndd1 => (have := h100.out; simp; omega)); (case basd1 => first | (simp; done) | (simp; omega)); intro pd1 nd1 cd1 wd7 hstd1 hmd7; have hmrd := hmd7; replace hmd7 := hide (Mod.into (S := NoB) (a := V6) (by repeat (first | exact Mod.refl _ _ | apply Mod.drew | apply Mod.alloc)) hmd7 (fun b h => Or.inr h.1)); replace hstd1 := hide hstd1; replace hmrd := hide hmrd) | (refine step_app_strs rfl (.tmp 107) (.tmp 111) rfl V6.heap.size (.slice pd1 nd1 cd1) (L.take k) rfl ?ownd2 ⟨g, k + 1, none⟩ (N - (k + 1)) (N - (k + 1)) (L.drop (k + 1)) rfl hldk.out.symm ?celd2 ?bndd2 ?basd2 ?_; (case ownd2 => exact ownsRow_mod (S := NoB) hstd1.out (by repeat (first | exact Mod.refl _ _ | apply Mod.drew | apply Mod.alloc)) (fun _ f => f.elim)); (case celd2 => (intro j y hy; rw [add_plain]; exact hcell.out _ (by repeat (first | exact hm48.out.trans hmd7.out | apply Mod.drew | apply Mod.alloc)) (k + 1 + j) y (by simpa [List.getElem?_drop] using hy))); (case bndd2 => (have := h100.out; simp; omega)); (case basd2 => (have := hmd7.out.size; simp; omega)); intro pd2 nd2 cd2 wd8 hstd2 hmd8; replace hmd8 := hide (Mod.into (S := NoB) (a := V6) (by repeat (first | exact hmd7.out | apply Mod.drew | apply Mod.alloc)) hmd8 (fun b h => Or.inr h.1)); replace hstd2 := hide hstd2)))
            all_goals (go_wp2_with fail; go_meet; exact ⟨_, _, _, rfl, hstd2.out, hmd8.out⟩)
        case rest =>
          obtain ⟨p3, n3, c3, rfl, hst3, hm2⟩ := hcut
          replace hst3 := hide hst3
          replace hm48 := hide (hm48.out.trans hm2)
          replace hb0 := hide (hm2.heap hb0.out id)
          replace ia := hide (ia.out.mod0 hm2)
          replace ix := hide (ix.out.mod0 hm2)
          replace hm := hide (hm.out.trans hm2)
          clear hm2
          obtain ⟨hll, hlp⟩ := parse_less hck.out (k := k) (by rw [hn.out]; have := hnN.out; omega)
          have hless : (lessI a k).map textI = L.take k ++ L.drop (k + 1) := by rw [← hLd.out]; simp [lessI, List.map_take, List.map_drop]
          rw [hless] at hll hlp
          have hLne : L.take k ++ L.drop (k + 1) ≠ [] := by intro e; have h := congrArg List.length e; rw [List.length_append, hltk.out, hldk.out] at h; have := hnN.out; simp at h; omega
          have hjl3 := join_nl hLne
          have hjn3 : Calls Tryz.prog 9 #[.slice p3 n3 c3, .string ⟨#[10]⟩] wc fun e w' => e = .returned (.string (bs (nl (L.take k ++ L.drop (k + 1))))) ∧ Mod NoB wc w' := by have h := join_any p3 n3 c3 _ (L.take k ++ L.drop (k + 1)) [10] wc hst3.out (List.length_pos_iff.2 hLne) (by rw [List.length_append, hltk.out, hldk.out]; have := h100.out; have := hN.out; omega) (by decide) (fun x hx => by rcases List.mem_append.1 hx with h | h; (have := hLs x (List.mem_of_mem_take h); omega); (have := hLs x (List.mem_of_mem_drop h); omega)); rw [hjl3] at h; exact h
          have hpp3 := fun w' (h : LaidN w') => parse_any _ (Nat.le_trans hll (by omega)) w' h
          obtain ⟨tz, htz⟩ : ∃ t, nl (L.take k ++ L.drop (k + 1)) = t := ⟨_, rfl⟩
          rw [htz] at hjn3 hpp3 hlp
          rw [hlp] at hpp3
          replace hjn3 := hide hjn3
          replace hpp3 := hide hpp3
          replace htz := hide htz
          replace hless := hide hless
          clear hll hlp hjl3 hLne
          go_wp2_with fail
          refine hjn3.out.mono ?_
          rintro e w14 ⟨rfl, hm2⟩
          replace hm48 := hide (hm48.out.trans hm2)
          replace hb0 := hide (hm2.heap hb0.out id)
          replace ia := hide (ia.out.mod0 hm2)
          replace ix := hide (ix.out.mod0 hm2)
          replace hm := hide (hm.out.trans hm2)
          clear hm2
          have hnI : (a.srv.length : Int) = (n : Int) := by rw [hn.out]
          by_cases hc1 : n ≤ k ∨ n = 1
          · skip
            have hlr : lessR a k = (cfg0, 0, 13) := by unfold lessR; rw [if_pos (by rw [hn.out]; exact hc1)]
            rw [hlr] at hpp3
            go_wp2_with fail
            refine (hpp3.out _ (hL.out.mod hm.out)).mono ?_
            rintro e w15 ⟨ho, hm2⟩
            obtain ⟨pz, cz, rfl, -, -, -, -⟩ := ho.vals (a := cfg0) (n := 0) (er := 13) rfl rfl rfl
            clear ho
            replace hb0 := hide (hm2.heap hb0.out id)
            replace ia := hide (ia.out.mod0 hm2)
            replace ix := hide (ix.out.mod0 hm2)
            replace hm := hide (hm.out.trans hm2)
            clear hm2
            by_cases hge : n ≤ k
            · skip
              have hge2 : decide ((n : Int) ≤ (k : Int)) = true := by simp; omega
              have hge3 : decide (n ≤ k) = true := by simp; omega
              clear hc1
              go_wp2_with fail
              refine (calive_any _ (hL.out.mod hm.out)).mono ?_
              rintro e w1' ⟨rfl, hm2⟩
              replace hb0 := hide (hm2.heap hb0.out id)
              replace ia := hide (ia.out.mod0 hm2)
              replace ix := hide (ix.out.mod0 hm2)
              replace hm := hide (hm.out.trans hm2)
              clear hm2
              go_wp2
              go_ret
              exact ⟨rfl, hm.out⟩
            · skip
              have hge2 : decide ((n : Int) ≤ (k : Int)) = false := by simp; omega
              have hge3 : decide (n ≤ k) = false := by simp; omega
              have hn1 : ((n : Int) == 1) = true := by have : n = 1 := hc1.resolve_left hge; rw [this]; rfl
              clear hc1
              go_wp2_with fail
              refine (calive_any _ (hL.out.mod hm.out)).mono ?_
              rintro e w1' ⟨rfl, hm2⟩
              replace hb0 := hide (hm2.heap hb0.out id)
              replace ia := hide (ia.out.mod0 hm2)
              replace ix := hide (ix.out.mod0 hm2)
              replace hm := hide (hm.out.trans hm2)
              clear hm2
              go_wp2
              go_ret
              exact ⟨rfl, hm.out⟩
          · skip
            have hge2 : decide ((n : Int) ≤ (k : Int)) = false := by simp; omega
            have hge3 : decide (n ≤ k) = false := by simp; omega
            have hn1 : ((n : Int) == 1) = false := beq_eq_false_iff_ne.mpr (by omega)
            by_cases hq : a.q < n
            · skip
              have hlr : lessR a k = (lessC a k, 0, 0) := by unfold lessR; rw [if_neg (by rw [hn.out]; exact hc1), if_pos (by rw [hn.out]; exact hq)]
              rw [hlr] at hpp3
              have hq2 : decide (a.q < (n : Int)) = true := by simp [hq]
              clear hc1
              go_wp2_with fail
              refine (hpp3.out _ (hL.out.mod hm.out)).mono ?_
              rintro e w15 ⟨ho, hm2⟩
              obtain ⟨pz, cz, rfl, -, -, -, -⟩ := ho.vals (a := lessC a k) (n := 0) (er := 0) rfl rfl rfl
              clear ho
              replace hb0 := hide (hm2.heap hb0.out id)
              replace ia := hide (ia.out.mod0 hm2)
              replace ix := hide (ix.out.mod0 hm2)
              replace hm := hide (hm.out.trans hm2)
              clear hm2
              go_wp2_with fail
              refine (calive_any _ (hL.out.mod hm.out)).mono ?_
              rintro e w16 ⟨rfl, hm2⟩
              replace hb0 := hide (hm2.heap hb0.out id)
              replace ia := hide (ia.out.mod0 hm2)
              replace ix := hide (ix.out.mod0 hm2)
              replace hm := hide (hm.out.trans hm2)
              clear hm2
              obtain ⟨a0, a1, a2, a3, a4, a5, -⟩ := six_of hb0.out
              go_wp2
              go_ret
              exact ⟨bool_ret (by simp), hm.out⟩
            · skip
              have hlr : lessR a k = (cfg0, 0, 3) := by unfold lessR; rw [if_neg (by rw [hn.out]; exact hc1), if_neg (by rw [hn.out]; exact hq)]
              rw [hlr] at hpp3
              have hq2 : decide (a.q < (n : Int)) = false := by simp; omega
              clear hc1
              go_wp2_with fail
              refine (hpp3.out _ (hL.out.mod hm.out)).mono ?_
              rintro e w15 ⟨ho, hm2⟩
              obtain ⟨pz, cz, rfl, -, -, -, -⟩ := ho.vals (a := cfg0) (n := 0) (er := 3) rfl rfl rfl
              clear ho
              replace hb0 := hide (hm2.heap hb0.out id)
              replace ia := hide (ia.out.mod0 hm2)
              replace ix := hide (ix.out.mod0 hm2)
              replace hm := hide (hm.out.trans hm2)
              clear hm2
              go_wp2_with fail
              refine (calive_any _ (hL.out.mod hm.out)).mono ?_
              rintro e w16 ⟨rfl, hm2⟩
              replace hb0 := hide (hm2.heap hb0.out id)
              replace ia := hide (ia.out.mod0 hm2)
              replace ix := hide (ix.out.mod0 hm2)
              replace hm := hide (hm.out.trans hm2)
              clear hm2
              obtain ⟨a0, a1, a2, a3, a4, a5, -⟩ := six_of hb0.out
              go_wp2
              go_ret
              exact ⟨bool_ret (by simp), hm.out⟩
    · skip
      have hfb : (f != 0) = true := by simpa [bne_iff_ne] using hf0
      replace hf := hide hf
      clear hf0
      go_wp2_with fail
      refine (calive_any _ (hL.out.mod hm.out)).mono ?_
      rintro e w1' ⟨rfl, hm2⟩
      replace hb0 := hide (hm2.heap hb0.out id)
      replace ia := hide (ia.out.mod0 hm2)
      replace hm := hide (hm.out.trans hm2)
      clear hm2
      go_wp2
      go_ret
      exact ⟨rfl, hm.out⟩

theorem own : ownKnob Tryz.prog.godebug = none := by kernel_rfl

theorem laid_met (os : Os) : laidMet Tryz.prog Rows.confLinesRow.laid ((World.laidAll Tryz.prog os Rows.confLinesRow.laid).forCall (fun _ _ => 0) ⟨#[], #[.agg #[.slice none 0 0, .int .i64 0, .int .i64 0, .int .i64 0, .int .i64 0, .int .i64 0], .int .u8 0], []⟩).memory :=
  laidMet_laidAll _ (by kernel_rfl) (by kernel_rfl)
theorem reads (os : Os) {H : Type} (enc : TypeId × Value → H) : ∃ places, DataW.whole enc Tryz.prog ((World.laidAll Tryz.prog os Rows.confLinesRow.laid).forCall (fun _ _ => 0) ⟨#[], #[.agg #[.slice none 0 0, .int .i64 0, .int .i64 0, .int .i64 0, .int .i64 0, .int .i64 0], .int .u8 0], []⟩).memory Tryz.f3.params.toList Rows.confLinesSpec.vars false #[.agg #[.slice none 0 0, .int .i64 0, .int .i64 0, .int .i64 0, .int .i64 0, .int .i64 0], .int .u8 0].toList 8 = some ([.agg [.nil, .lit (.int .i64 0), .lit (.int .i64 0), .lit (.int .i64 0), .lit (.int .i64 0), .lit (.int .i64 0)], .lit (.int .u8 0)], [], places) :=
  ⟨[], by kernel_rfl⟩

set_option maxRecDepth 100000 in
theorem lifted (os : Os) (started : os.Started) (H : Type) (enc : TypeId × Value → H) (F : Stop.Interp) :
    ReturnsInHanded {} Tryz.checked os 3 .any ((OpenSpec.ofChange Rows.confLinesSpec).preRow enc Tryz.prog Tryz.f3 Rows.confLinesRow.domain false Rows.confLinesRow.laid) (((OpenSpec.ofChange Rows.confLinesSpec).at F).post enc Tryz.prog Tryz.f3 false true false false) := by
  obtain ⟨places, hx⟩ := reads os enc
  refine law_row (C := Tryz.checked) (bt := 4) own started (by kernel_rfl) Tryz.func3 (by kernel_rfl) (by kernel_rfl) (by kernel_rfl) Tryz.underlying4 rfl ?_ rfl
    (witness_row_atRef (enc := enc) (C := Tryz.checked) false (World.laidAll Tryz.prog os Rows.confLinesRow.laid) #[.agg #[.slice none 0 0, .int .i64 0, .int .i64 0, .int .i64 0, .int .i64 0, .int .i64 0], .int .u8 0] (World.laidAll_os _ _ _) (by kernel_rfl) (by kernel_rfl) (by kernel_rfl)
      (OpenSpec.preRow_of_cond 8 hx (by kernel_rfl) (fun k hk => by cases hk) (by kernel_rfl) (laid_met os))) ?_
  · intro ds h
    match ds, h with
    | [d0, d1], _ => rfl
  · intro W base args ds ps hval0 hA0 hsz hL hsh
    have hval : ∀ (j : Nat) t v, Tryz.f3.params[j]? = some t → args[j]? = some v → Value.okWide Tryz.prog W .any base t v := hval0
    have hA : DataW.TrodAll enc Tryz.prog W 0 (fun _ => true) true Tryz.f3.params.toList args.toList ds ps := hA0
    have hLd := laidN_of (by simp [Rows.confLinesRow]) (by simp [Rows.confLinesRow]) (by simp [Rows.confLinesRow]) hL
    rw [Tryz.params3] at hA hval
    obtain ⟨v0, v1, d0, d1, p0, p1, rfl, rfl, rfl, h0, h1⟩ := trodAll_two hA
    obtain ⟨a, pa, ca, rfl, ia, la, ma, ka⟩ := open_cfg (hval 0 _ _ rfl rfl) h0
    obtain ⟨v, rfl, rfl, rfl, wv⟩ := open_int Tryz.underlying5 (hval 1 _ _ rfl rfl) h1
    have hb := bounds_u8 wv
    exact walk a pa ca v hb.1 hb.2 W ia la hLd (Tryz.laysM146.s1_3 W hsh)

theorem said : Rows.ConfLinesSaid :=
  OpenClaim.holds_of_cond 3 Tryz.f3 rfl rfl rfl rfl rfl rfl rfl ⟨rfl, rfl, rfl, rfl, rfl⟩ rfl rfl rfl rfl rfl (by kernel_rfl) Tryz.func3 (by kernel_rfl)
    (of_decide_eq_true (by kernel_rfl)) (by unfold Func.isWrapper; first | (rw [if_pos (by decide +kernel)]; kernel_rfl) | (rw [if_neg (by decide +kernel)]; exact ⟨rfl, rfl⟩))
    (fun os started H enc _ F => by rw [OpenClaim.pre_eq_preRow]; exact lifted os started H enc F)

theorem plain (f : FuncId) (fn : Func) (hf : Tryz.pinned.checked.prog.funcNamed "chronobate/chronobatelaw06.ConfLines" = some f) (hfn : Tryz.pinned.checked.prog.funcs[f]? = some fn) :
    true = Tryz.pinned.checked.prog.looks [] ∧ ∀ (j : Nat) t, fn.params[j]? = some t → Tryz.pinned.checked.prog.wantsStandIn t = false := by
  obtain rfl : f = 3 := Option.some.inj ((show Tryz.prog.funcNamed "chronobate/chronobatelaw06.ConfLines" = some 3 by kernel_rfl).symm.trans hf) |>.symm
  obtain rfl : fn = Tryz.f3 := (Option.some.inj (Tryz.func3.symm.trans hfn)).symm
  refine ⟨by kernel_rfl, fun j t ht => ?_⟩
  have hall : (Tryz.f3.params.toList.all fun t => !(Tryz.prog.wantsStandIn t)) = true := by kernel_rfl
  have := List.all_eq_true.1 hall t (Array.mem_toList_iff.2 (Array.mem_of_getElem? ht))
  have h2 : Tryz.prog.wantsStandIn t = false := by simpa using this
  exact h2

theorem proved : Rows.ConfLinesCardSaid :=
  Claim7.holds_tied_plain_at .later [] _ _ _ _ said (fun _ h => by cases h) (by kernel_rfl) (fun _ h => by cases h) confLines_row_tie rfl ⟨rfl, rfl⟩ (by kernel_rfl) rfl plain (by kernel_rfl)
#print axioms proved
end Go.Proofs.YtdcmjjinmnbaoaaGreatDoor.confLines
