/- conf.Same, and the document's. -/
import Derived.Test.YtdcmjjinmnbaoaaDoorCfF
namespace Go.Proofs.YtdcmjjinmnbaoaaDoor
open Go.RowKit

/-- A config. -/
structure Cfg where
  srv : List Int
  q : Int
  l : Int
  m : Int
  d : Int
  s : Int
def sameC (a b : Cfg) : Bool := eqI a.srv b.srv && a.q == b.q && a.l == b.l && a.m == b.m && a.d == b.d && a.s == b.s
theorem same_no {a b : Cfg} (h : eqI a.srv b.srv = false ∨ a.q ≠ b.q ∨ a.l ≠ b.l ∨ a.m ≠ b.m ∨ a.d ≠ b.d ∨ a.s ≠ b.s) : sameC a b = false := by
  unfold sameC
  rcases h with h | h | h | h | h | h <;> simp [h]
theorem same_yes {a b : Cfg} (h : eqI a.srv b.srv = true) (h1 : a.q = b.q) (h2 : a.l = b.l) (h3 : a.m = b.m) (h4 : a.d = b.d) (h5 : a.s = b.s) : sameC a b = true := by
  unfold sameC
  simp [h, h1, h2, h3, h4, h5]
/-- A config by value, its servers at p. -/
abbrev Cfg.val (a : Cfg) (p : Option Addr) (c : Nat) : Value := cfgV p a.srv.length c a.q a.l a.m a.d a.s

theorem two_boxes (w : World) (A B : Obj) : ∃ W2, (w.alloc A).alloc B = W2 ∧ W2.heap[w.heap.size]? = some A ∧ W2.heap[w.heap.size + 1]? = some B ∧ Mod NoB w W2 := by
  refine ⟨_, rfl, (heap_alloc_old (by simp) _).trans (heap_alloc_new _ _), ?_, ((Mod.refl _ _).alloc _).alloc _⟩
  have := heap_alloc_new (w.alloc A) B
  rwa [World.size_alloc] at this

set_option maxRecDepth 100000 in
set_option maxHeartbeats 8000000 in
theorem csame_any (a b : Cfg) (pa pb : Option Addr) (ca cb : Nat) (w : World) (ha : IntsL w pa a.srv) (hb : IntsL w pb b.srv) (hl : a.srv.length ≤ 1000000) :
    Calls Tryd.prog 16 #[a.val pa ca, b.val pb cb] w fun e w' => e = .returned (.bool (sameC a b)) ∧ Mod NoB w w' := by
  obtain ⟨r, hr⟩ : ∃ r, sameC a b = r := ⟨_, rfl⟩
  rw [hr]
  have hno := hide (fun h => hr.symm.trans (same_no h))
  have hye := hide (fun h h1 h2 h3 h4 h5 => hr.symm.trans (same_yes h h1 h2 h3 h4 h5))
  clear hr
  obtain ⟨W2, hW2, hA, hB, hm⟩ := two_boxes w (.cells #[.slice pa a.srv.length ca, .int .i64 a.q, .int .i64 a.l, .int .i64 a.m, .int .i64 a.d, .int .i64 a.s] 25) (.cells #[.slice pb b.srv.length cb, .int .i64 b.q, .int .i64 b.l, .int .i64 b.m, .int .i64 b.d, .int .i64 b.s] 25)
  obtain ⟨av, aq, al, am, ad, az⟩ := a
  obtain ⟨bv, bq, bl, bm, bd, bz⟩ := b
  simp only [Cfg.val] at *
  have heq := hide (sequal_any pa pb av bv ca cb W2 (ha.mod0 hm) (hb.mod0 hm) hl)
  replace hm := hide hm
  clear ha hb
  have a0 := cell_of_block hA 0 (v := .slice pa av.length ca) rfl
  have a1 := cell_of_block hA 1 (v := .int .i64 aq) rfl
  have a2 := cell_of_block hA 2 (v := .int .i64 al) rfl
  have a3 := cell_of_block hA 3 (v := .int .i64 am) rfl
  have a4 := cell_of_block hA 4 (v := .int .i64 ad) rfl
  have a5 := cell_of_block hA 5 (v := .int .i64 az) rfl
  have b0 := cell_of_block hB 0 (v := .slice pb bv.length cb) rfl
  have b1 := cell_of_block hB 1 (v := .int .i64 bq) rfl
  have b2 := cell_of_block hB 2 (v := .int .i64 bl) rfl
  have b3 := cell_of_block hB 3 (v := .int .i64 bm) rfl
  have b4 := cell_of_block hB 4 (v := .int .i64 bd) rfl
  have b5 := cell_of_block hB 5 (v := .int .i64 bz) rfl
  replace hA := hide hA
  replace hB := hide hB
  go_enter Tryd.func16, Tryd.ntmps16
  go_wp2_with fail
  refine heq.out.mono ?_
  rintro e w3 ⟨rfl, hm3⟩
  clear heq a0 a1 a2 a3 a4 a5 b0 b1 b2 b3 b4 b5
  replace hA := hm3.heap hA.out id
  replace hB := hm3.heap hB.out id
  have a0 := cell_of_block hA 0 (v := .slice pa av.length ca) rfl
  have a1 := cell_of_block hA 1 (v := .int .i64 aq) rfl
  have a2 := cell_of_block hA 2 (v := .int .i64 al) rfl
  have a3 := cell_of_block hA 3 (v := .int .i64 am) rfl
  have a4 := cell_of_block hA 4 (v := .int .i64 ad) rfl
  have a5 := cell_of_block hA 5 (v := .int .i64 az) rfl
  have b0 := cell_of_block hB 0 (v := .slice pb bv.length cb) rfl
  have b1 := cell_of_block hB 1 (v := .int .i64 bq) rfl
  have b2 := cell_of_block hB 2 (v := .int .i64 bl) rfl
  have b3 := cell_of_block hB 3 (v := .int .i64 bm) rfl
  have b4 := cell_of_block hB 4 (v := .int .i64 bd) rfl
  have b5 := cell_of_block hB 5 (v := .int .i64 bz) rfl
  replace hA := hide hA
  replace hB := hide hB
  replace hm := hide (hm.out.trans hm3)
  clear hm3
  cases he : eqI av bv with
  | false =>
    have h3 := hide (hno.out (Or.inl he))
    clear hno hye he
    go_wp2
    go_ret
    exact ⟨bool_ret h3.out.symm, hm.out⟩
  | true =>
    by_cases t0 : aq = bq
    rotate_left
    · have h3 := hide (hno.out (Or.inr (Or.inl t0)))
      have hb : (aq == bq) = false := by simpa using t0
      clear hno hye he t0
      go_wp2
      go_ret
      exact ⟨bool_ret h3.out.symm, hm.out⟩
    have u0 : (aq == bq) = true := by simpa using t0
    replace t0 := hide t0
    by_cases t1 : al = bl
    rotate_left
    · have h3 := hide (hno.out (Or.inr (Or.inr (Or.inl t1))))
      have hb : (al == bl) = false := by simpa using t1
      clear hno hye he t1
      go_wp2
      go_ret
      exact ⟨bool_ret h3.out.symm, hm.out⟩
    have u1 : (al == bl) = true := by simpa using t1
    replace t1 := hide t1
    by_cases t2 : am = bm
    rotate_left
    · have h3 := hide (hno.out (Or.inr (Or.inr (Or.inr (Or.inl t2)))))
      have hb : (am == bm) = false := by simpa using t2
      clear hno hye he t2
      go_wp2
      go_ret
      exact ⟨bool_ret h3.out.symm, hm.out⟩
    have u2 : (am == bm) = true := by simpa using t2
    replace t2 := hide t2
    by_cases t3 : ad = bd
    rotate_left
    · have h3 := hide (hno.out (Or.inr (Or.inr (Or.inr (Or.inr (Or.inl t3))))))
      have hb : (ad == bd) = false := by simpa using t3
      clear hno hye he t3
      go_wp2
      go_ret
      exact ⟨bool_ret h3.out.symm, hm.out⟩
    have u3 : (ad == bd) = true := by simpa using t3
    replace t3 := hide t3
    by_cases t4 : az = bz
    rotate_left
    · have h3 := hide (hno.out (Or.inr (Or.inr (Or.inr (Or.inr (Or.inr (t4)))))))
      have hb : (az == bz) = false := by simpa using t4
      clear hno hye he t4
      go_wp2
      go_ret
      exact ⟨bool_ret h3.out.symm, hm.out⟩
    have u4 : (az == bz) = true := by simpa using t4
    replace t4 := hide t4
    have h3 := hide (hye.out he t0.out t1.out t2.out t3.out t4.out)
    clear hno hye he
    go_wp2
    go_ret
    exact ⟨bool_ret h3.out.symm, hm.out⟩

set_option maxRecDepth 100000 in
set_option maxHeartbeats 8000000 in
theorem rsame_any (a b : Cfg) (pa pb : Option Addr) (ca cb : Nat) (w : World) (ha : IntsL w pa a.srv) (hb : IntsL w pb b.srv) (hl : a.srv.length ≤ 1000000) :
    Calls Tryd.prog 12 #[a.val pa ca, b.val pb cb] w fun e w' => e = .returned (.bool (sameC a b)) ∧ Mod NoB w w' := by
  obtain ⟨r, hr⟩ : ∃ r, sameC a b = r := ⟨_, rfl⟩
  rw [hr]
  have hno := hide (fun h => hr.symm.trans (same_no h))
  have hye := hide (fun h h1 h2 h3 h4 h5 => hr.symm.trans (same_yes h h1 h2 h3 h4 h5))
  clear hr
  obtain ⟨W2, hW2, hA, hB, hm⟩ := two_boxes w (.cells #[.slice pa a.srv.length ca, .int .i64 a.q, .int .i64 a.l, .int .i64 a.m, .int .i64 a.d, .int .i64 a.s] 25) (.cells #[.slice pb b.srv.length cb, .int .i64 b.q, .int .i64 b.l, .int .i64 b.m, .int .i64 b.d, .int .i64 b.s] 25)
  obtain ⟨av, aq, al, am, ad, az⟩ := a
  obtain ⟨bv, bq, bl, bm, bd, bz⟩ := b
  simp only [Cfg.val] at *
  have hml := hm
  replace hm := hide hm
  have a0 := cell_of_block hA 0 (v := .slice pa av.length ca) rfl
  have a1 := cell_of_block hA 1 (v := .int .i64 aq) rfl
  have a2 := cell_of_block hA 2 (v := .int .i64 al) rfl
  have a3 := cell_of_block hA 3 (v := .int .i64 am) rfl
  have a4 := cell_of_block hA 4 (v := .int .i64 ad) rfl
  have a5 := cell_of_block hA 5 (v := .int .i64 az) rfl
  have b0 := cell_of_block hB 0 (v := .slice pb bv.length cb) rfl
  have b1 := cell_of_block hB 1 (v := .int .i64 bq) rfl
  have b2 := cell_of_block hB 2 (v := .int .i64 bl) rfl
  have b3 := cell_of_block hB 3 (v := .int .i64 bm) rfl
  have b4 := cell_of_block hB 4 (v := .int .i64 bd) rfl
  have b5 := cell_of_block hB 5 (v := .int .i64 bz) rfl
  by_cases hlen : av.length = bv.length
  rotate_left
  · have h3 := hide (hno.out (Or.inl (eqI_len hlen)))
    have hb : ((av.length : Int) != (bv.length : Int)) = true := by simp; omega
    have hlen2 : ¬ (av.length : Int) = (bv.length : Int) := by omega
    clear hno hye ha hb hA hB hlen
    go_enter Tryd.func12, Tryd.ntmps12
    go_wp2
    go_ret
    exact ⟨bool_ret h3.out.symm, hm.out⟩
  have hlb : ((av.length : Int) != (av.length : Int)) = false := by simp
  rw [← hlen] at b0 hW2 ⊢
  by_cases t0 : aq = bq
  rotate_left
  · have h3 := hide (hno.out (Or.inr (Or.inl t0)))
    have hb : (aq != bq) = true := by simpa using t0
    clear hno hye ha hA hB t0
    replace hlen := hide hlen
    go_enter Tryd.func12, Tryd.ntmps12
    go_wp2
    go_ret
    exact ⟨bool_ret h3.out.symm, hm.out⟩
  have u0 : (aq != bq) = false := by simpa using t0
  replace t0 := hide t0
  by_cases t1 : al = bl
  rotate_left
  · have h3 := hide (hno.out (Or.inr (Or.inr (Or.inl t1))))
    have hb : (al != bl) = true := by simpa using t1
    clear hno hye ha hA hB t1
    replace hlen := hide hlen
    go_enter Tryd.func12, Tryd.ntmps12
    go_wp2
    go_ret
    exact ⟨bool_ret h3.out.symm, hm.out⟩
  have u1 : (al != bl) = false := by simpa using t1
  replace t1 := hide t1
  by_cases t2 : am = bm
  rotate_left
  · have h3 := hide (hno.out (Or.inr (Or.inr (Or.inr (Or.inl t2)))))
    have hb : (am != bm) = true := by simpa using t2
    clear hno hye ha hA hB t2
    replace hlen := hide hlen
    go_enter Tryd.func12, Tryd.ntmps12
    go_wp2
    go_ret
    exact ⟨bool_ret h3.out.symm, hm.out⟩
  have u2 : (am != bm) = false := by simpa using t2
  replace t2 := hide t2
  by_cases t3 : ad = bd
  rotate_left
  · have h3 := hide (hno.out (Or.inr (Or.inr (Or.inr (Or.inr (Or.inl t3))))))
    have hb : (ad != bd) = true := by simpa using t3
    clear hno hye ha hA hB t3
    replace hlen := hide hlen
    go_enter Tryd.func12, Tryd.ntmps12
    go_wp2
    go_ret
    exact ⟨bool_ret h3.out.symm, hm.out⟩
  have u3 : (ad != bd) = false := by simpa using t3
  replace t3 := hide t3
  by_cases t4 : az = bz
  rotate_left
  · have h3 := hide (hno.out (Or.inr (Or.inr (Or.inr (Or.inr (Or.inr (t4)))))))
    have hb : (az != bz) = true := by simpa using t4
    clear hno hye ha hA hB t4
    replace hlen := hide hlen
    go_enter Tryd.func12, Tryd.ntmps12
    go_wp2
    go_ret
    exact ⟨bool_ret h3.out.symm, hm.out⟩
  have u4 : (az != bz) = false := by simpa using t4
  replace t4 := hide t4
  have hfa := hide (fun k (h : av.getD k 0 ≠ bv.getD k 0) => hno.out (Or.inl (eqI_at h)))
  have htr := hide (fun (h : ∀ k, k < av.length → av.getD k 0 = bv.getD k 0) => hye.out (eqI_all hlen h) t0.out t1.out t2.out t3.out t4.out)
  replace hlen := hide hlen
  clear hno hye
  go_enter Tryd.func12, Tryd.ntmps12
  go_wp2_with fail
  replace a0 := hide a0
  replace b0 := hide b0
  clear a1 a2 a3 a4 a5 b1 b2 b3 b4 b5
  go_loopw [5] (fun vi wr => ∃ i : Nat, i ≤ av.length ∧ vi = .int .i64 i ∧ (∀ k, k < i → av.getD k 0 = bv.getD k 0) ∧ Mod NoB W2 wr) (fun vi _ => av.length - (intOf vi).toNat)
  case atStart => exact ⟨0, by omega, rfl, by omega, Mod.refl _ _⟩
  case round =>
    obtain ⟨i, hi, rfl, hall, hmr⟩ := hrel
    have a0 := hmr.cellAt id a0.out
    have b0 := hmr.cellAt id b0.out
    by_cases hlt : i < av.length
    · obtain ⟨b1, o1, rfl, _, hc1⟩ := ha i hlt
      obtain ⟨b2, o2, rfl, _, hc2⟩ := hb i (by rw [← hlen.out]; exact hlt)
      replace hc1 := (hm.out.trans hmr).cellAt id hc1
      replace hc2 := (hm.out.trans hmr).cellAt id hc2
      have hne := hide (hfa.out i)
      have hal : Hid (av.getD i 0 = bv.getD i 0 → ∀ k, k < i + 1 → av.getD k 0 = bv.getD k 0) := hide (fun h k hk => by
        rcases Nat.lt_or_ge k i with h1 | h1
        · exact hall k h1
        · obtain rfl : k = i := by omega
          exact h)
      replace hall := hide hall
      replace hmr := hide hmr
      replace ha := hide ha
      replace hb := hide hb
      generalize av.getD i 0 = x at hc1 hne hal
      generalize bv.getD i 0 = y at hc2 hne hal
      have hi0 : (0 : Int) ≤ (i : Int) := by omega
      have hi1 : (i : Int) < (av.length : Int) := by omega
      by_cases hxy : x = y
      · subst hxy
        have hxb : (x != x) = false := by simp
        go_wp2_with fail
        go_quiet (fail)
        go_wp2_with fail
        go_roundw
        case rel => exact ⟨i + 1, by omega, by go_num, hal.out (by first | rfl | trivial), hmr.out.drewN _⟩
        case measure => simp [intOf]; omega
      · have hxb : (x != y) = true := by simpa using hxy
        go_wp2_with fail
        go_quiet (fail)
        go_wp2
        go_ret
        exact ⟨bool_ret (hne.out hxy).symm, hm.out.trans (hmr.out.drewN _)⟩
    · obtain rfl : i = av.length := by omega
      have ht := hide (htr.out hall)
      clear hall
      replace hmr := hide hmr
      go_wp2
      go_ret
      exact ⟨bool_ret ht.out.symm, hm.out.trans hmr.out⟩
end Go.Proofs.YtdcmjjinmnbaoaaDoor
