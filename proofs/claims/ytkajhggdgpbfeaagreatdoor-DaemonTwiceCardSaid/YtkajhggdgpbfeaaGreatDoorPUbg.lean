/- The same is done (the document's Same), contract. Two daemons beside one another. Events that may not be (plain); DaemonErrors' walk. The clock's times at any two readings: plain. -/
import Derived.Test.YtkajhggdgpbfeaaGreatDoorPUbf
namespace Go.Proofs.YtkajhggdgpbfeaaGreatDoor
set_option linter.unusedSimpArgs false
open Go.RowKit

abbrev outV (v : Value) (c wk r : Int) : Value := .agg #[v, .int .i64 c, .int .i64 wk, .int .i64 r]
/-- All that is sent are bytes. -/
def SendsOk (L : List (Int × List Nat)) : Prop := ∀ x ∈ L, (∀ c ∈ x.2, c < 256) ∧ 0 < x.2.length ∧ x.2.length ≤ 1000
set_option maxRecDepth 100000 in
set_option maxHeartbeats 8000000 in
theorem same_out (v1 v2 : Value) (L : List (Int × List Nat)) (c wk r : Int) (b1 b2 : Nat) (w : World) (h1 : SendsAt w b1 v1 L) (h2 : SendsAt w b2 v2 L) (hL : SendsOk L) (hl : L.length ≤ 1000) :
    Calls Tryz.prog 16 #[outV v1 c wk r, outV v2 c wk r] w fun e w' => e = .returned (.bool true) ∧ Mod NoB w w' := by
  obtain ⟨p1, c1, e1⟩ := h1.slice
  obtain ⟨p2, c2, e2⟩ := h2.slice
  subst e1 e2
  have hm2 : Mod NoB w ((w.alloc (.cells #[.slice p1 L.length c1, .int .i64 c, .int .i64 wk, .int .i64 r] 39)).alloc (.cells #[.slice p2 L.length c2, .int .i64 c, .int .i64 wk, .int .i64 r] 39)) := ((Mod.refl _ _).alloc _).alloc _
  have hA := (heap_alloc_old (w := w.alloc (.cells #[.slice p1 L.length c1, .int .i64 c, .int .i64 wk, .int .i64 r] 39)) (by simp) (.cells #[.slice p2 L.length c2, .int .i64 c, .int .i64 wk, .int .i64 r] 39)).trans (heap_alloc_new w (.cells #[.slice p1 L.length c1, .int .i64 c, .int .i64 wk, .int .i64 r] 39))
  have hB := heap_alloc_new (w.alloc (.cells #[.slice p1 L.length c1, .int .i64 c, .int .i64 wk, .int .i64 r] 39)) (.cells #[.slice p2 L.length c2, .int .i64 c, .int .i64 wk, .int .i64 r] 39)
  rw [World.size_alloc] at hB
  obtain ⟨n, hn⟩ : ∃ n, L.length = n := ⟨_, rfl⟩
  rw [hn] at hm2 hA hB hl ⊢
  replace h1 := hide h1
  replace h2 := hide h2
  replace hL := hide hL
  replace hn := hide hn
  go_enter Tryz.func16, Tryz.ntmps16
  go_upto_region 1 with (fail)
  generalize (w.alloc (.cells #[.slice p1 n c1, .int .i64 c, .int .i64 wk, .int .i64 r] 39)).alloc (.cells #[.slice p2 n c2, .int .i64 c, .int .i64 wk, .int .i64 r] 39) = w2 at *
  obtain ⟨x0, x1, x2, x3, -⟩ := four_of hA
  obtain ⟨y0, y1, y2, y3, -⟩ := four_of hB
  replace hA := hide hA
  replace hB := hide hB
  replace hm2 := hide hm2
  go_wp2_with fail
  go_loopw [5] (fun s5 wr => ∃ k : Nat, s5 = .int .i64 k ∧ k ≤ n ∧ Mod NoB w2 wr) (fun s5 wr => n - (match s5 with | .int _ i => i.toNat | _ => 0))
  case atStart => exact ⟨0, rfl, Nat.zero_le _, Mod.refl _ _⟩
  case round =>
    obtain ⟨k, rfl, hk, hmr⟩ := hrel
    have x0r := hmr.cellAt id x0
    have y0r := hmr.cellAt id y0
    by_cases hkn : k < n
    · obtain ⟨s, hs⟩ : ∃ s, L[k]? = some s := ⟨L[k]'(by rw [hn.out]; exact hkn), List.getElem?_eq_getElem (by rw [hn.out]; exact hkn)⟩
      obtain ⟨g1, k1, u1, e1, _, q10, q11, hu1⟩ := sends_at (h1.out.mod (hm2.out.trans hmr) (fun _ _ => id)) hs
      obtain ⟨g2, k2, u2, e2, _, q20, q21, hu2⟩ := sends_at (h2.out.mod (hm2.out.trans hmr) (fun _ _ => id)) hs
      obtain ⟨e1, _, e1'⟩ := Value.slice.inj e1
      obtain ⟨e2, _, e2'⟩ := Value.slice.inj e2
      subst e1 e1' e2 e2'
      obtain ⟨hb, h0, h9⟩ := hL.out s (List.mem_of_getElem? hs)
      obtain ⟨d1, m1, f1, _, _, _, by1⟩ := own_data hu1 hb h0
      obtain ⟨d2, m2, f2, _, _, _, by2⟩ := own_data hu2 hb h0
      subst f1 f2
      have hcv1 := fun nq => conv_bytes (cap := m1) rfl (by1.mod ((Mod.refl NoB wr).drewN nq) id)
      have hcv2 := fun nq => conv_bytes (cap := m2) rfl (by2.mod ((Mod.refl NoB wr).drewN nq) id)
      have hki : (k : Int) < n := by omega
      have hkd : decide ((k : Int) < n) = true := by simpa using hki
      have hxd : decide (s.1 = s.1) = true := by simp
      replace hb := hide hb
      replace by1 := hide by1
      replace by2 := hide by2
      replace hu1 := hide hu1
      replace hu2 := hide hu2
      replace hs := hide hs
      replace hmr := hide hmr
      clear hB hA x0 x1 x2 x3 y0 y1 y2 y3
      go_wp2_with fail
      go_quiet (fail)
      clear hcv1 hcv2 hkd hxd x0r y0r q10 q11 q20 q21
      go_wp2_with fail
      go_roundw
      case rel => exact ⟨k + 1, by go_num, by omega, hmr.out.drewN _⟩
      all_goals go_num
    · have hkf : decide ((k : Int) < n) = false := by simp; omega
      replace hmr := hide hmr
      clear hB hA x0 x1 x2 x3 y0 y1 y2 y3
      go_wp2_with fail
      go_ret
      exact ⟨rfl, (hm2.out.trans hmr.out)⟩
end Go.Proofs.YtkajhggdgpbfeaaGreatDoor

namespace Go.Proofs.YtkajhggdgpbfeaaGreatDoor
set_option linter.unusedSimpArgs false
open Go.RowKit

/-- Two daemons that share nothing, both made since w0, in which nothing old has turned. -/
structure Two (w0 : World) (P P' : DPl) (d m : DaemonS) (w : World) : Prop where
  d : DO w P d
  m : DO w P' m
  apart : ∀ k, fpD P k → ¬ fpD P' k
  loL : ∀ k, fpD P k → w0.heap.size ≤ k
  loR : ∀ k, fpD P' k → w0.heap.size ≤ k
  old : Mod NoB w0 w
/-- One daemon, made since w0. -/
structure One (w0 : World) (P : DPl) (d : DaemonS) (w : World) : Prop where
  d : DO w P d
  lo : ∀ k, fpD P k → w0.heap.size ≤ k
  old : Mod NoB w0 w
theorem One.quiet {w0 w w' : World} {P : DPl} {d : DaemonS} (h : One w0 P d w) (hm : Mod NoB w w') : One w0 P d w' := ⟨h.d.quiet hm, h.lo, h.old.trans hm⟩
theorem One.step {w0 w w' : World} {P P1 : DPl} {d d1 : DaemonS} (h : One w0 P d w) (hd : DO w' P1 d1) (ht : DTo P P1 w w') : One w0 P1 d1 w' :=
  ⟨hd, fun k hk => (ht.f k hk).elim (h.lo k) (fun x => Nat.le_trans h.old.size x), h.old.into ht.m (fun k hk => Or.inr (h.lo k hk))⟩
theorem One.b {w0 w : World} {P : DPl} {d : DaemonS} (h : One w0 P d w) : w0.heap.size ≤ P.b := h.lo _ .b
theorem Two.left {w0 w : World} {P P' : DPl} {d m : DaemonS} (h : Two w0 P P' d m w) : One w0 P d w := ⟨h.d, h.loL, h.old⟩
theorem Two.right {w0 w : World} {P P' : DPl} {d m : DaemonS} (h : Two w0 P P' d m w) : One w0 P' m w := ⟨h.m, h.loR, h.old⟩
theorem Two.swap {w0 w : World} {P P' : DPl} {d m : DaemonS} (h : Two w0 P P' d m w) : Two w0 P' P m d w := ⟨h.m, h.d, fun k a b => h.apart k b a, h.loR, h.loL, h.old⟩
theorem Two.quiet {w0 w w' : World} {P P' : DPl} {d m : DaemonS} (h : Two w0 P P' d m w) (hm : Mod NoB w w') : Two w0 P P' d m w' :=
  ⟨h.d.quiet hm, h.m.quiet hm, h.apart, h.loL, h.loR, h.old.trans hm⟩
/-- The first does something. -/
theorem Two.stepL {w0 w w' : World} {P P' P1 : DPl} {d m d1 : DaemonS} (h : Two w0 P P' d m w) (hd : DO w' P1 d1) (ht : DTo P P1 w w') : Two w0 P1 P' d1 m w' :=
  have h1 := h.left.step hd ht
  ⟨hd, h.m.apart ht.m (fun k hk => h.apart k hk), fun k hk hk' => (ht.f k hk).elim (fun x => h.apart k x hk') (fun x => Nat.lt_irrefl _ (Nat.lt_of_le_of_lt x (h.m.lt k hk'))), h1.lo, h.loR, h1.old⟩
/-- The second does something. -/
theorem Two.stepR {w0 w w' : World} {P P' P1 : DPl} {d m m1 : DaemonS} (h : Two w0 P P' d m w) (hd : DO w' P1 m1) (ht : DTo P' P1 w w') : Two w0 P P1 d m1 w' := (h.swap.stepL hd ht).swap
/-- New is called. -/
theorem One.new {l : List UInt8} {h clock : Int} {w w' : World} {e : Ending} (hn : DNewPost l h clock w e w') {c : Cfg} (hc : newOut l h clock = .inr c) :
    ∃ P, e = .returned (.tuple #[at0 P.b, .int .i64 0, .int .i64 0]) ∧ One w P (newS c h clock) w' := by
  obtain ⟨hm, ⟨line, er, _, h1⟩ | ⟨P, c', h1, h2, h3, h4⟩⟩ := hn
  · rw [hc] at h1
    cases h1
  · rw [hc] at h2
    cases h2
    exact ⟨P, h1, h3, h4, hm⟩
/-- New is called beside a daemon. -/
theorem Two.new {l : List UInt8} {h clock : Int} {w0 w w' : World} {e : Ending} {P : DPl} {d : DaemonS} (ho : One w0 P d w) (hn : DNewPost l h clock w e w') {c : Cfg} (hc : newOut l h clock = .inr c) :
    ∃ P', e = .returned (.tuple #[at0 P'.b, .int .i64 0, .int .i64 0]) ∧ Two w0 P P' d (newS c h clock) w' := by
  obtain ⟨P', h1, h2⟩ := One.new hn hc
  exact ⟨P', h1, ho.d.quiet hn.1, h2.d, fun k a b => Nat.lt_irrefl _ (Nat.lt_of_lt_of_le (ho.d.lt k a) (h2.lo k b)), ho.lo, fun k hk => Nat.le_trans ho.old.size (h2.lo k hk), ho.old.trans hn.1⟩
/-- New makes none. -/
theorem new_none {l : List UInt8} {h clock : Int} {w w' : World} {e : Ending} (hn : DNewPost l h clock w e w') {x : Int × Int} (hc : newOut l h clock = .inl x) :
    e = .returned (.tuple #[.pointer none, .int .i64 x.1, .int .i64 x.2]) ∧ Mod NoB w w' := by
  obtain ⟨hm, ⟨line, er, h1, h2⟩ | ⟨P, c', h1, h2, _⟩⟩ := hn
  · rw [hc] at h2
    cases h2
    exact ⟨h1, hm⟩
  · rw [hc] at h2
    cases h2
end Go.Proofs.YtkajhggdgpbfeaaGreatDoor

namespace Go.Proofs.YtkajhggdgpbfeaaGreatDoor
set_option linter.unusedSimpArgs false
open Go.RowKit

theorem doS_err {d : DaemonS} {e : EvS} (h : errS d e ≠ 0) : doS d e = (d, out0) := by unfold doS; rw [if_pos h]
theorem doS_h {d : DaemonS} {e : EvS} (h : errS d e = 0) : (doS d e).1.h = e.h := by
  unfold doS
  rw [if_neg (by simp [h])]
  split
  · unfold tickS
    simp only []
  · unfold datagramS
    exact (hear_rest _ _ _ _).2.2.1
theorem err_kind (d : DaemonS) (h a : Int) (dr : Nat) (l : List Nat) : errS d ⟨2, h, a, dr, l⟩ = 10 := by unfold errS; rw [if_pos ⟨by simp, by simp⟩]
theorem err_low (d : DaemonS) {h : Int} (h0 : h < 0) (a : Int) (dr : Nat) (l : List Nat) : errS d ⟨0, h, a, dr, l⟩ = 3 := by unfold errS; rw [if_neg (fun x => x.1 rfl), if_pos (Or.inl h0)]
theorem err_high (d : DaemonS) {h : Int} (h0 : maxHard < h) (a : Int) (dr : Nat) (l : List Nat) : errS d ⟨1, h, a, dr, l⟩ = 3 := by unfold errS; rw [if_neg (fun x => x.2 rfl), if_pos (Or.inr h0)]
theorem err_past (d : DaemonS) (h0 : 0 < d.h) (h1 : d.h ≤ maxHard) (a : Int) (dr : Nat) (l : List Nat) : errS d ⟨0, d.h - 1, a, dr, l⟩ = 8 := by
  unfold errS
  rw [if_neg (fun x => x.1 rfl), if_neg (by simp only []; omega), if_pos (by simp only []; omega)]
/-- Events that may not be, in a row. -/
def BadAt (w : World) (d : DaemonS) (S : Nat → Prop) (g m : Nat) : Prop :=
  ∀ i, i < m → ∃ (e : EvS) (dp : Option Addr) (dc : Nat), w.cell? ⟨g, i * 5, none⟩ = some (.int .i64 e.kind) ∧ w.cell? ⟨g, i * 5 + 1, none⟩ = some (.int .i64 e.h) ∧ w.cell? ⟨g, i * 5 + 2, none⟩ = some (.int .i64 e.addr) ∧
    w.cell? ⟨g, i * 5 + 3, none⟩ = some (.int .u64 (e.draw : Int)) ∧ w.cell? ⟨g, i * 5 + 4, none⟩ = some (.slice dp e.data.length dc) ∧ DataAt w (.slice dp e.data.length dc) e.data ∧
    I64 e.kind ∧ I64 e.h ∧ I64 e.addr ∧ e.draw < 18446744073709551616 ∧ errS d e ≠ 0 ∧ ∀ bd off, dp = some ⟨bd, off, none⟩ → 0 < e.data.length → ¬ S bd
theorem BadAt.mod {w w' : World} {d : DaemonS} {S : Nat → Prop} {g m : Nat} (h : BadAt w d S g m) (hm : Mod NoB w w') : BadAt w' d S g m := fun i hi =>
  let ⟨e, dp, dc, h0, h1, h2, h3, h4, h5, h6⟩ := h i hi
  ⟨e, dp, dc, hm.cellAt id h0, hm.cellAt id h1, hm.cellAt id h2, hm.cellAt id h3, hm.cellAt id h4, h5.mod hm, h6⟩
theorem data_nil (w : World) : DataAt w (.slice none 0 0) [] := ⟨none, 0, rfl, by decide, fun h => absurd h (by decide)⟩
abbrev badCells (n0 n1 n2 : Int) (dp : Option Addr) (k c : Nat) : List Value :=
  [.int .i64 2, .int .i64 (max 0 n0), .int .i64 0, .int .u64 0, .slice none 0 0, .int .i64 0, .int .i64 (min (-1) n1), .int .i64 0, .int .u64 7, .slice none 0 0, .int .i64 1, .int .i64 (max 4611686018427387904 n2), .int .i64 0, .int .u64 0, .slice dp k c]
theorem BadAt.apart {w w' : World} {d : DaemonS} {S : Nat → Prop} {g m : Nat} (h : BadAt w d S g m) (hm : Mod S w w') (hg : ¬ S g) : BadAt w' d S g m := fun i hi =>
  let ⟨e, dp, dc, h0, h1, h2, h3, h4, h5, a, b, c, dd, ee, h6⟩ := h i hi
  ⟨e, dp, dc, hm.cellAt hg h0, hm.cellAt hg h1, hm.cellAt hg h2, hm.cellAt hg h3, hm.cellAt hg h4, DataAt.modS h5 hm (fun bd off p n hp h0 => by obtain ⟨rfl, _⟩ := Value.slice.inj hp; exact h6 bd off rfl h0), a, b, c, dd, ee, h6⟩
/-- An event's data lie apart of all that is the daemon's. -/
theorem ev_apart {w0 w : World} {P : DPl} {d : DaemonS} (h : One w0 P d w) {dp dp' : Option Addr} {l l' : List Nat} (hd : ∀ bd off, dp = some ⟨bd, off, none⟩ → 0 < l.length → bd < w0.heap.size)
    (he : (dp' = dp ∧ l' = l) ∨ ∀ bd off, dp' = some ⟨bd, off, none⟩ → w.heap.size ≤ bd) : ∀ bd off, dp' = some ⟨bd, off, none⟩ → 0 < l'.length → ¬ fpD P bd := by
  intro bd off hb hl e
  rcases he with ⟨rfl, rfl⟩ | he
  · exact Nat.lt_irrefl _ (Nat.lt_of_lt_of_le (hd _ _ hb hl) (h.lo _ e))
  · exact Nat.lt_irrefl _ (Nat.lt_of_lt_of_le (h.d.lt _ e) (he _ _ hb))
theorem bad_row {w : World} {d : DaemonS} {S : Nat → Prop} {g : Nat} {n0 n1 n2 : Int} (h0 : I64 n0) (h1 : I64 n1) (h2 : I64 n2) {dp : Option Addr} {l : List Nat} {c : Nat} (hda : DataAt w (.slice dp l.length c) l) (hap : ∀ bd off, dp = some ⟨bd, off, none⟩ → 0 < l.length → ¬ S bd)
    {rest : List Value} (cell : ∀ i v, (badCells n0 n1 n2 dp l.length c ++ rest)[i]? = some v → w.cell? ⟨g, i, none⟩ = some v) {m : Nat}
    (hr : rest = [] ∧ m = 3 ∨ rest = [.int .i64 0, .int .i64 (d.h - 1), .int .i64 0, .int .u64 9, .slice none 0 0] ∧ m = 4 ∧ 0 < d.h ∧ d.h ≤ maxHard) : BadAt w d S g m := by
  unfold I64 at h0 h1 h2
  have a0 : I64 0 := ⟨by decide, by decide⟩
  have a1 : I64 1 := ⟨by decide, by decide⟩
  have a2 : I64 2 := ⟨by decide, by decide⟩
  have u0 : (0 : Nat) < 18446744073709551616 := by decide
  have u7 : (7 : Nat) < 18446744073709551616 := by decide
  have u9 : (9 : Nat) < 18446744073709551616 := by decide
  intro i hi
  match i, hi with
  | 0, _ => exact ⟨⟨2, max 0 n0, 0, 0, []⟩, none, 0, cell 0 _ rfl, cell 1 _ rfl, cell 2 _ rfl, cell 3 _ rfl, cell 4 _ rfl, data_nil w, a2, ⟨by simp only []; omega, by simp only []; omega⟩, a0, u0, by rw [err_kind]; decide, fun _ _ h _ => by cases h⟩
  | 1, _ => exact ⟨⟨0, min (-1) n1, 0, 7, []⟩, none, 0, cell 5 _ rfl, cell 6 _ rfl, cell 7 _ rfl, cell 8 _ rfl, cell 9 _ rfl, data_nil w, a0, ⟨by simp only []; omega, by simp only []; omega⟩, a0, u7, by rw [err_low d (by omega)]; decide, fun _ _ h _ => by cases h⟩
  | 2, _ => exact ⟨⟨1, max 4611686018427387904 n2, 0, 0, l⟩, dp, c, cell 10 _ rfl, cell 11 _ rfl, cell 12 _ rfl, cell 13 _ rfl, cell 14 _ rfl, hda, a1, ⟨by simp only []; omega, by simp only []; omega⟩, a0, u0, by rw [err_high d (by unfold maxHard; omega)]; decide, hap⟩
  | 3, hi =>
    rcases hr with ⟨_, rfl⟩ | ⟨rfl, rfl, hh, hx⟩
    · omega
    · have hx' : d.h ≤ 4611686018427387903 := hx
      exact ⟨⟨0, d.h - 1, 0, 9, []⟩, none, 0, cell 15 _ rfl, cell 16 _ rfl, cell 17 _ rfl, cell 18 _ rfl, cell 19 _ rfl, data_nil w, a0, ⟨by simp only []; omega, by simp only []; omega⟩, a0, u9, by rw [err_past d hh hx]; decide, fun _ _ h _ => by cases h⟩
  | i + 4, hi => rcases hr with ⟨_, rfl⟩ | ⟨_, rfl, _⟩ <;> omega
end Go.Proofs.YtkajhggdgpbfeaaGreatDoor

namespace Go.Proofs.YtkajhggdgpbfeaaGreatDoor
set_option linter.unusedSimpArgs false
open Go.RowKit

/-- Of two readings the clock's times are as far apart as these, but for the rate, rounded up. -/
def GapR (r h1 c1 h c : Int) : Prop := 1000000 * ((c - c1) - (h - h1)) ≤ r * (h - h1) + 999999 ∧ -(1000000 * ((c - c1) - (h - h1))) ≤ r * (h - h1) + 999999
/-- A reading that was seen, when the clock's last change was k. -/
def SeenK (k : ClockS) (h1 c1 : Int) : Prop := (h1 ≤ k.h ∧ GapR k.rate h1 c1 k.h k.c) ∨ (k.h ≤ h1 ∧ c1 = (k.at h1).c)
theorem room_eq {k : ClockS} (hk : k.Ok) {h : Int} (h0 : k.h ≤ h) (h1 : h ≤ 4611686018427387903) : roomOf k h = k.rate * (h - k.h) / 1000000 := by
  have h00 := hk.h0
  have hx0 : 0 ≤ (h - k.h) * k.rate := Int.mul_nonneg (by omega) (by have := hk.r0; omega)
  have hx1 : (h - k.h) * k.rate ≤ (h - k.h) * 500 := Int.mul_le_mul_of_nonneg_left hk.r1 (by omega)
  unfold roomOf mulDiv clamp64
  rw [Int.fdiv_eq_ediv_of_nonneg _ (by omega), Int.mul_comm k.rate]
  generalize (h - k.h) * k.rate = x at *
  rw [if_neg (by omega), if_neg (by omega)]
theorem mul_split (r a b c : Int) : r * (a - c) = r * (a - b) + r * (b - c) := by
  rw [← Int.mul_add]
  congr 1
  omega
theorem step_zero {k : ClockS} (hk : k.Ok) (h1 : k.h ≤ 4611686018427387903) : stepOf k k.h = 0 := by
  have := step_le hk (Int.le_refl k.h) h1
  omega
theorem step_gap {k : ClockS} (hk : k.Ok) {h1 h : Int} (h0 : k.h ≤ h1) (h2 : h1 ≤ h) (h3 : h ≤ 4611686018427387903) :
    1000000 * (stepOf k h - stepOf k h1) ≤ k.rate * (h - h1) + 999999 ∧ -(1000000 * (stepOf k h - stepOf k h1)) ≤ k.rate * (h - h1) + 999999 := by
  have e1 := room_eq hk h0 (by omega)
  have e2 := room_eq hk (h := h) (by omega) h3
  have e3 := mul_split k.rate h h1 k.h
  have p1 : 0 ≤ k.rate * (h1 - k.h) := Int.mul_nonneg (by have := hk.r0; omega) (by omega)
  have p2 : 0 ≤ k.rate * (h - h1) := Int.mul_nonneg (by have := hk.r0; omega) (by omega)
  unfold stepOf clampTo
  rw [e1, e2, e3]
  generalize k.rate * (h1 - k.h) = x at *
  generalize k.rate * (h - h1) = y at *
  generalize k.left = z
  constructor <;> (repeat' split) <;> omega
/-- A reading that was seen, and one behind all. -/
theorem SeenK.gap {k : ClockS} (hk : k.Ok) {h1 c1 h : Int} (hs : SeenK k h1 c1) (h0 : k.h ≤ h) (h2 : h1 ≤ h) (h3 : h ≤ 4611686018427387903) : GapR k.rate h1 c1 h (k.at h).c := by
  rcases hs with ⟨a, g1, g2⟩ | ⟨a, rfl⟩
  · have e2 := room_eq hk h0 h3
    have e3 := mul_split k.rate h k.h h1
    have p2 : 0 ≤ k.rate * (h - k.h) := Int.mul_nonneg (by have := hk.r0; omega) (by omega)
    have hst : -roomOf k h ≤ stepOf k h ∧ stepOf k h ≤ roomOf k h := by
      unfold stepOf clampTo
      rw [e2]
      generalize k.rate * (h - k.h) = y at *
      generalize k.left = z
      constructor <;> (repeat' split) <;> omega
    rw [e2] at hst
    unfold GapR
    show 1000000 * ((k.c + (h - k.h) + stepOf k h - c1) - (h - h1)) ≤ _ ∧ _
    rw [show (k.at h).c = k.c + (h - k.h) + stepOf k h from rfl, e3]
    generalize k.rate * (h - k.h) = y at *
    generalize k.rate * (k.h - h1) = x at *
    generalize stepOf k h = s at *
    constructor <;> omega
  · obtain ⟨s1, s2⟩ := step_gap hk a h2 h3
    unfold GapR
    rw [show (k.at h).c = k.c + (h - k.h) + stepOf k h from rfl, show (k.at h1).c = k.c + (h1 - k.h) + stepOf k h1 from rfl]
    generalize k.rate * (h - h1) = y at *
    generalize stepOf k h = s at *
    generalize stepOf k h1 = s' at *
    constructor <;> omega
theorem adjust_at {k : ClockS} (hk : k.Ok) {h b : Int} (h0 : k.h ≤ h) (h1 : h ≤ 4611686018427387903) : ((k.adjust h b).at h).c = (k.at h).c := by
  have hz := step_zero (hk.adjust (b := b) h0 h1) (show (k.adjust h b).h ≤ _ from h1)
  have hz' : stepOf (k.adjust h b) h = 0 := hz
  show (k.at h).c + (h - h) + stepOf (k.adjust h b) h = (k.at h).c
  rw [hz']
  omega
/-- What a Do makes of the clock. -/
theorem do_k (d : DaemonS) (e : EvS) : (doS d e).1.k = d.k ∨ (errS d e = 0 ∧ ∃ b, (doS d e).1.k = d.k.adjust e.h b) := by
  unfold doS
  split
  · exact Or.inl rfl
  · rename_i h0
    split
    · exact Or.inl rfl
    · have he : errS d e = 0 := Decidable.of_not_not h0
      unfold datagramS hearS
      simp only []
      split
      · exact Or.inl rfl
      split
      · exact Or.inl rfl
      split
      · exact Or.inl rfl
      · unfold takeS
        split
        · exact Or.inr ⟨he, _, rfl⟩
        · exact Or.inl rfl
theorem do_out (d : DaemonS) (e : EvS) (h : errS d e = 0) : (doS d e).2.clock = ((doS d e).1.k.at e.h).c := by
  unfold doS
  rw [if_neg (by simp [h])]
  split <;> rfl
/-- Of an event that may be: what the clock tells, and what was seen before. -/
theorem do_clock {d : DaemonS} (hd : d.Ok) {e : EvS} (he : errS d e = 0) :
    (doS d e).2.clock = (d.k.at e.h).c ∧ (doS d e).1.k.rate = d.k.rate ∧ SeenK (doS d e).1.k e.h (doS d e).2.clock ∧
      ∀ h1 c1, h1 ≤ d.h → SeenK d.k h1 c1 → GapR d.k.rate h1 c1 e.h (doS d e).2.clock ∧ SeenK (doS d e).1.k h1 c1 := by
  obtain ⟨_, b2, b3, b4⟩ := err_none he
  have b3 : e.h ≤ 4611686018427387903 := b3
  have k0 : d.k.h ≤ e.h := Int.le_trans hd.h0 b4
  have ho := do_out d e he
  rcases do_k d e with hk | ⟨_, b, hk⟩
  · rw [ho, hk]
    exact ⟨rfl, rfl, Or.inr ⟨k0, rfl⟩, fun h1 c1 hh hs => ⟨hs.gap hd.k k0 (by omega) b3, hs⟩⟩
  · rw [ho, hk, adjust_at hd.k k0 b3]
    refine ⟨rfl, rfl, Or.inr ⟨Int.le_refl _, (adjust_at hd.k k0 b3).symm⟩, fun h1 c1 hh hs => ?_⟩
    have hg := hs.gap hd.k k0 (by omega) b3
    exact ⟨hg, Or.inl ⟨by show h1 ≤ e.h; omega, hg⟩⟩
/-- What the law asks. -/
theorem GapR.law {r h1 c1 h c : Int} (hg : GapR r h1 c1 h c) (r0 : 1 ≤ r) (r1 : r ≤ 500) (h0 : 0 ≤ h1) (hh : h1 ≤ h) (h3 : h ≤ 4611686018427387903) :
    h - h1 - mulDiv (h - h1) r 1000000 - 1 ≤ c - c1 ∧ c - c1 ≤ h - h1 + mulDiv (h - h1) r 1000000 + 1 ∧ 0 ≤ c - c1 ∧ (2 ≤ h - h1 → 1 ≤ c - c1) ∧ 0 ≤ mulDiv (h - h1) r 1000000 ∧ mulDiv (h - h1) r 1000000 ≤ h - h1 := by
  have hx0 : 0 ≤ (h - h1) * r := Int.mul_nonneg (by omega) (by omega)
  have hx1 : (h - h1) * r ≤ (h - h1) * 500 := Int.mul_le_mul_of_nonneg_left r1 (by omega)
  obtain ⟨g1, g2⟩ := hg
  unfold mulDiv clamp64
  rw [Int.fdiv_eq_ediv_of_nonneg _ (by omega)]
  rw [Int.mul_comm r] at g1 g2
  generalize (h - h1) * r = x at *
  rw [if_neg (by omega), if_neg (by omega)]
  refine ⟨?_, ?_, ?_, ?_, ?_, ?_⟩ <;> omega
end Go.Proofs.YtkajhggdgpbfeaaGreatDoor

