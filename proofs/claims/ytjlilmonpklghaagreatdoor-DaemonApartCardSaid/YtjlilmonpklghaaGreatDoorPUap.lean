/- A daemon: plain Lean. A ring new, whole; a store (contracts). A store's fresh samples: the iterator, a range over it; the best one (contracts). -/
import Derived.Test.YtjlilmonpklghaaGreatDoorPUac
import Derived.Test.YtjlilmonpklghaaGreatDoorPUag
import Derived.Test.YtjlilmonpklghaaGreatDoorPUao
import Derived.Test.YtjlilmonpklghaaGreatDoorPUah
namespace Go.Proofs.YtjlilmonpklghaaGreatDoor
open Go.RowKit

def sortI (l : List Int) : List Int := l.mergeSort fun x y => decide (x ≤ y)
def medI (l : List Int) : Int := (sortI l).getD ((l.length - 1) / 2) 0
/-- quorum.Choose: of an quorum that may be. -/
def chooseS (q : Int) (v : List VoteS) : Int × Int :=
  if q < 1 then (0, 3) else if (v.length : Int) < q then (0, 13) else if v.length = 0 then (0, 4) else (medI (v.map (·.offset)), 0)

structure DaemonS where
  c : Cfg
  k : ClockS
  ps : List PeerS
  ss : List (List SampleS)
  n : List Int
  draw : Nat
  h : Int
  theta : Int
  votes : List VoteS
  chosen : Int

/-- An event. -/
structure EvS where
  kind : Int
  h : Int
  addr : Int
  draw : Nat
  data : List Nat
/-- What is done. -/
structure OutS where
  sends : List (Int × List Nat)
  clock : Int
  wake : Int
  reason : Int
def out0 : OutS := ⟨[], 0, 0, 0⟩

/-- The peers behind a tick's questions. -/
def askPs (h clock : Int) (draw : Nat) (ps : List PeerS) : List PeerS := ps.map fun p => (p.ask h clock draw).getD p
/-- What is sent. -/
def askSends (h clock : Int) (draw : Nat) (ps : List PeerS) (srv : List Int) : List (Int × List Nat) :=
  (ps.zip srv).filterMap fun x => (x.1.ask h clock draw).map fun _ => (x.2, (queryP draw).bytes)
def drawOf (d : DaemonS) (draw : Nat) : Nat := if draw = 0 then d.draw else draw
def tickS (d : DaemonS) (h : Int) (draw : Nat) : DaemonS × List (Int × List Nat) :=
  ({ d with draw := drawOf d draw, ps := askPs h (d.k.at h).c (drawOf d draw) (d.ps.map (·.late h)) },
   askSends h (d.k.at h).c (drawOf d draw) (d.ps.map (·.late h)) d.c.srv)
/-- The first place of a number. -/
def placeOf (x : Int) : List Int → Nat
  | [] => 0
  | y :: l => if y = x then 0 else placeOf x l + 1
def zeroPeer : PeerS := ⟨0, 0, 0, 0, 0, 0, 0, 0, 0, 0⟩
/-- What a sample that was taken does. -/
def takeS (d : DaemonS) (h : Int) : DaemonS :=
  if (chooseS d.c.q (votesS d.ss h (2 * (d.c.m * 1000000000)) (d.k.at h).all)).2 = 0 then
    { d with k := d.k.adjust h (chooseS d.c.q (votesS d.ss h (2 * (d.c.m * 1000000000)) (d.k.at h).all)).1, theta := (chooseS d.c.q (votesS d.ss h (2 * (d.c.m * 1000000000)) (d.k.at h).all)).1,
             votes := votesS d.ss h (2 * (d.c.m * 1000000000)) (d.k.at h).all, chosen := IntKind.i64.wrap (d.chosen + 1) }
  else d
/-- hear. -/
def hearS (d : DaemonS) (h addr : Int) (b : List Nat) : DaemonS × Int :=
  if b.length < 48 then (d, 1)
  else if placeOf addr d.c.srv = d.c.srv.length then (d, 2)
  else
    let i := placeOf addr d.c.srv
    let p := d.ps.getD i zeroPeer
    let r := p.answer h (d.k.at h).c (d.k.at h).all (lookR b p.cookie) (pktOf b).recv (pktOf b).xmit
    match r.2.1 with
    | none => ({ d with ps := d.ps.set i r.1 }, r.2.2)
    | some x => (takeS { d with ps := d.ps.set i r.1, ss := d.ss.set i (storeAdd (d.ss.getD i []) x) } h, r.2.2)
def bumpS (n : List Int) (why : Int) : List Int := n.set why.toNat (IntKind.i64.wrap (n.getD why.toNat 0 + 1))
def datagramS (d : DaemonS) (h addr : Int) (b : List Nat) : DaemonS × Int :=
  ({ (hearS d h addr b).1 with n := bumpS (hearS d h addr b).1.n (hearS d h addr b).2 }, (hearS d h addr b).2)
/-- When something is to be done. -/
def wakeS : List PeerS → Int
  | [] => 0
  | p :: ps => ps.foldl (fun a p => if p.next < a then p.next else a) p.next
/-- Do's error. -/
def errS (d : DaemonS) (e : EvS) : Int := if e.kind ≠ 0 ∧ e.kind ≠ 1 then 10 else if e.h < 0 ∨ maxHard < e.h then 3 else if e.h < d.h then 8 else 0
/-- Do. -/
def doS (d : DaemonS) (e : EvS) : DaemonS × OutS :=
  if errS d e ≠ 0 then (d, out0)
  else if e.kind = 0 then
    let r := tickS { d with h := e.h } e.h e.draw
    (r.1, ⟨r.2, (r.1.k.at e.h).c, wakeS r.1.ps, 0⟩)
  else
    let r := datagramS { d with h := e.h } e.h e.addr e.data
    (r.1, ⟨[], (r.1.k.at e.h).c, wakeS r.1.ps, r.2⟩)
def stateS (d : DaemonS) (addr : Int) : Int := if placeOf addr d.c.srv = d.c.srv.length then 2 else (d.ps.getD (placeOf addr d.c.srv) zeroPeer).state
/-- New's error behind Parse. -/
def newErr (h clock : Int) : Int := if h < 0 ∨ maxHard < h ∨ clock < -2305843009213693952 ∨ 2305843009213693952 < clock then 3 else 0
def newPeer (c : Cfg) (h : Int) : PeerS := ⟨c.l, c.m, c.l, 0, 0, h, c.d * 1000000, 0, 0, 0⟩
def newS (c : Cfg) (h clock : Int) : DaemonS :=
  ⟨c, ⟨h, clock, 0, 0, c.s⟩, c.srv.map fun _ => newPeer c h, c.srv.map fun _ => [], List.replicate 13 0, 0, h, 0, [], 0⟩
end Go.Proofs.YtjlilmonpklghaaGreatDoor

namespace Go.Proofs.YtjlilmonpklghaaGreatDoor
set_option linter.unusedSimpArgs false
open Go.RowKit

/-- A slice value holds samples: nil and none, or a row of them. -/
def SamplesAt (w : World) (v : Value) (xs : List SampleS) : Prop :=
  (v = .slice none 0 0 ∧ xs = []) ∨ ∃ g c, v = .slice (some ⟨g, 0, none⟩) xs.length c ∧ ∀ j u, (scells xs)[j]? = some u → w.cell? ⟨g, j, none⟩ = some u
theorem scells_one (xs : List SampleS) : ∀ u ∈ scells xs, u.oneCell' = true := by
  intro u hu
  obtain ⟨y, _, hy⟩ := List.mem_flatMap.1 hu
  simp at hy
  rcases hy with rfl | rfl | rfl | rfl <;> rfl
theorem row_cells {w : World} {base : Nat} {t : TypeId} {n c g : Nat} {xs : List Value} (h : w.ownsRow base t 4 (.slice (some ⟨g, 0, none⟩) n c) n xs) : ∀ j u, xs[j]? = some u → w.cell? ⟨g, j, none⟩ = some u := by
  intro j u hj
  rcases h.2 with ⟨h0, _⟩ | ⟨g', cap, cur, hv, _, hg, _, _, hcs, htk⟩
  · cases h0
  · cases hv
    refine cell_of_block hg j ?_
    have hlt : j < xs.length := by
      rcases Nat.lt_or_ge j xs.length with h | h
      · exact h
      · rw [List.getElem?_eq_none h] at hj; cases hj
    rw [h.1] at hlt
    rw [← htk, List.getElem?_take_of_lt hlt, Array.getElem?_toList] at hj
    exact hj
theorem RingO.samples {w : World} {b : Nat} {sl : Value} {xs : List SampleS} (h : RingO w b sl xs) : SamplesAt w sl xs := by
  rcases h.row.2 with ⟨h0, h1⟩ | ⟨g, cap, cur, hv, _⟩
  · exact Or.inl ⟨h0, List.length_eq_zero_iff.1 h1⟩
  · have hr := h.row
    subst hv
    exact Or.inr ⟨g, cap, rfl, row_cells hr⟩
/-- Block b holds a store: a ring at rb, its slice sl. -/
structure StoreO (w : World) (b rb : Nat) (sl : Value) (xs : List SampleS) : Prop where
  blk : w.heap[b]? = some (.cells #[at0 rb] 248 (0, 0))
  ring : RingO w rb sl xs
theorem StoreO.mod {S : Nat → Prop} {w w' : World} {b rb : Nat} {sl : Value} {xs : List SampleS} (h : StoreO w b rb sl xs) (hm : Mod S w w') (hb : ¬ S b) (hr : ¬ S rb) (hs : ∀ g, sl.ownBlock = some g → ¬ S g) : StoreO w' b rb sl xs :=
  ⟨hm.heap h.blk hb, h.ring.mod hm hr hs⟩
theorem rall_any (b : Nat) (sl : Value) (xs : List SampleS) (w : World) (h : RingO w b sl xs) (hl : xs.length ≤ 8) :
    Calls Tryz.prog 303 #[at0 b] w fun e w' => ∃ v, e = .returned v ∧ SamplesAt w' v xs ∧ (∀ g, v.ownBlock = some g → w.heap.size ≤ g) ∧ Mod NoB w w' := by
  have hs := h.samples
  obtain ⟨⟨cnt, hcnt, hblk⟩, hrow⟩ := h
  have k0 := cell_of_block hblk 0 rfl
  rcases hs with ⟨rfl, rfl⟩ | ⟨g, c, rfl, hc⟩
  · clear hblk hrow
    have h1 := hide (cloneS_nil 0 0)
    go_enter Tryz.func303, Tryz.ntmps303
    go_wp2_with fail
    refine (h1.out _).mono ?_
    rintro e w' ⟨rfl, rfl⟩
    go_wp2
    go_ret
    exact ⟨_, rfl, Or.inl ⟨rfl, rfl⟩, fun g hg => (by cases hg), Mod.refl _ _⟩
  · have h1 := hide (cloneS_any g 0 xs.length c (scells xs) (scells_len xs) (by omega) (scells_one xs) w (by intro j u hj; simpa using hc j u hj))
    clear hblk hrow hc
    go_enter Tryz.func303, Tryz.ntmps303
    go_wp2_with fail
    refine h1.out.mono ?_
    rintro e w' ⟨v, rfl, hown, hm⟩
    have hfin : SamplesAt w' v xs := by
      rcases hown.2 with ⟨h0, h1⟩ | ⟨g, cap, cur, hv, _⟩
      · exact Or.inl ⟨h0, List.length_eq_zero_iff.1 h1⟩
      · subst hv
        exact Or.inr ⟨g, cap, rfl, row_cells hown⟩
    have hnew : ∀ g, v.ownBlock = some g → w.heap.size ≤ g := by
      intro g hg
      rcases hown.2 with ⟨h0, h1⟩ | ⟨g', cap, cur, hv, hb, _⟩
      · rw [h0] at hg; cases hg
      · subst hv; cases hg; exact hb
    clear hown
    replace hnew := hide hnew
    replace hfin := hide hfin
    replace hm := hide hm
    go_wp2
    go_ret
    exact ⟨_, rfl, hfin.out, hnew.out, hm.out⟩
theorem fadd_any (b rb : Nat) (sl : Value) (xs : List SampleS) (x : SampleS) (w : World) (h : StoreO w b rb sl xs) (hl : xs.length ≤ 8) (hne : b ≠ rb) (hns : ∀ g, sl.ownBlock = some g → g ≠ b) :
    Calls Tryz.prog 175 #[at0 b, x.val] w fun e w' =>
      (∃ r, e = .returned r) ∧ ∃ sl', StoreO w' b rb sl' (storeAdd xs x) ∧ Mod (ringOwn rb sl) w w' ∧ ∀ g, sl'.ownBlock = some g → sl.ownBlock = some g ∨ w.heap.size ≤ g := by
  have hlt := lt_of_block h.blk
  have k0 := cell_of_block h.blk 0 rfl
  have hlr : rb < w.heap.size := by obtain ⟨_, _, h⟩ := h.ring.blk; exact lt_of_block h
  have hc := fun (w5 : World) (hm : Mod NoB w w5) => ringadd_any rb sl xs x w5 (h.ring.mod hm id (fun _ _ => id)) hl
  replace h := hide h
  replace hns := hide hns
  replace hc := hide hc
  go_enter Tryz.func175, Tryz.ntmps175
  go_wp2_with fail
  go_region_with ((go_at_call 210; refine (hc.out _ (by first | exact ((Mod.refl _ _).alloc _).drew | exact ((Mod.refl _ _).alloc _).drewN _)).mono ?_; rintro e w5 ⟨rfl, sl', hro, hm, hown⟩; replace hro := hide hro; replace hm := hide hm; replace hown := hide hown))
  all_goals
    have hmm : Mod (ringOwn rb sl) w w5 := ((Mod.refl (ringOwn rb sl) w).alloc _).drew.trans hm.out
    have hfin : StoreO w5 b rb sl' (storeAdd xs x) := ⟨hmm.heap h.out.blk (fun hb => hb.elim hne (fun hs => hns.out b hs rfl)), hro.out⟩
    have hown2 : ∀ g, sl'.ownBlock = some g → sl.ownBlock = some g ∨ w.heap.size ≤ g := fun g hg => (hown.out g hg).imp id (fun h => Nat.le_trans (by simp) h)
    clear hm hro hown
    replace hmm := hide hmm
    replace hfin := hide hfin
    replace hown2 := hide hown2
    go_wp2_with fail
    go_ret
    exact ⟨⟨_, rfl⟩, sl', hfin.out, hmm.out, hown2.out⟩
theorem fall_any (b rb : Nat) (sl : Value) (xs : List SampleS) (w : World) (h : StoreO w b rb sl xs) (hl : xs.length ≤ 8) :
    Calls Tryz.prog 291 #[at0 b] w fun e w' => ∃ v, e = .returned v ∧ SamplesAt w' v xs ∧ (∀ g, v.ownBlock = some g → w.heap.size ≤ g) ∧ Mod NoB w w' := by
  have k0 := cell_of_block h.blk 0 rfl
  have h1 := hide (rall_any rb sl xs w h.ring hl)
  clear h
  go_enter Tryz.func291, Tryz.ntmps291
  go_wp2_with fail
  refine h1.out.mono ?_
  rintro e w' ⟨v, rfl, hs, hnew, hm⟩
  replace hs := hide hs
  replace hm := hide hm
  replace hnew := hide hnew
  go_wp2
  go_ret
  exact ⟨_, rfl, hs.out, hnew.out, hm.out⟩
end Go.Proofs.YtjlilmonpklghaaGreatDoor

namespace Go.Proofs.YtjlilmonpklghaaGreatDoor
set_option linter.unusedSimpArgs false
open Go.RowKit Go.Shelf
attribute [local go_sem] Oper.semAt_some

theorem smp_cells {w : World} {g : Nat} {xs : List SampleS} (hc : ∀ j u, (scells xs)[j]? = some u → w.cell? ⟨g, j, none⟩ = some u) {k : Nat} {x : SampleS} (hk : xs[k]? = some x) :
    w.cell? ⟨g, k * 4, none⟩ = some (.int .i64 x.offset) ∧ w.cell? ⟨g, k * 4 + 1, none⟩ = some (.int .i64 x.delay) ∧ w.cell? ⟨g, k * 4 + 2, none⟩ = some (.int .i64 x.at') ∧ w.cell? ⟨g, k * 4 + 3, none⟩ = some (.int .i64 x.slewed) := by
  have key : ∀ (l : List SampleS) (k : Nat), l[k]? = some x → ∀ j, j < 4 → (scells l)[k * 4 + j]? = x.cells[j]? := by
    intro l
    induction l with
    | nil => intro k h; simp at h
    | cons y l ih =>
      intro k h j hj
      cases k with
      | zero =>
        cases h
        rw [scells_cons, List.getElem?_append_left (by simp; omega)]
        simp
      | succ k =>
        rw [scells_cons, List.getElem?_append_right (by simp; omega)]
        rw [show (k + 1) * 4 + j - y.cells.length = k * 4 + j by simp; omega]
        exact ih k (by simpa using h) j hj
  exact ⟨hc _ _ (by simpa using key xs k hk 0 (by decide)), hc _ _ (by simpa using key xs k hk 1 (by decide)), hc _ _ (by simpa using key xs k hk 2 (by decide)), hc _ _ (by simpa using key xs k hk 3 (by decide))⟩
/-- The best of the first k. -/
def bestTo (xs : List SampleS) (h life : Int) (k : Nat) : Option SampleS := bestS (xs.take k) h life
theorem bestTo_succ {xs : List SampleS} {h life : Int} {k : Nat} {x : SampleS} (hk : xs[k]? = some x) :
    bestTo xs h life (k + 1) = if freshS x h life then pickS (bestTo xs h life k) x else bestTo xs h life k := by
  unfold bestTo bestS
  rw [List.take_add_one, hk]
  simp only [Option.toList_some, List.filter_append, List.foldl_append]
  cases hf : freshS x h life <;> simp [hf]
set_option maxHeartbeats 4000000 in
theorem freshIter (n : Nat) (b rb : Nat) (sl : Value) (xs : List SampleS) (h life : Int) (Bt Bh Bl l : Nat) (Own : Nat → Prop) (P : Option SampleS → World → Prop) (W : World)
    (hst : StoreO W b rb sl xs) (hl : xs.length ≤ 8) (hok : ∀ x ∈ xs, x.Ok) (hh : I64 h)
    (ct : W.cell? ⟨Bt, 0, none⟩ = some (at0 b)) (ch : W.cell? ⟨Bh, 0, none⟩ = some (.int .i64 h)) (cl : W.cell? ⟨Bl, 0, none⟩ = some (.int .i64 life))
    (nh : ¬ Own Bh) (nl : ¬ Own Bl) (hown : ∀ k, Own k → k < W.heap.size)
    (hP : ∀ o W W', P o W → Mod NoB W W' → P o W')
    (hY : ∀ o x W1, P o W1 → YieldAt Fence.wide (n - 1) Tryz.prog l #[x.val] W1 fun e W2 => e = .returned (.bool true) ∧ P (pickS o x) W2 ∧ Mod Own W1 W2)
    (h0 : P none W) :
    CallsIn Fence.wide n Tryz.prog 290 #[.func (.yield l) #[] #[], at0 Bt, at0 Bh, at0 Bl] W
      fun e W' => (∃ v, e = .returned v) ∧ P (bestS xs h life) W' ∧ Mod Own W W' := by
  have hall := fall_any b rb sl xs W hst hl
  replace hall := hide hall
  clear hst
  replace hP := hide hP
  replace hY := hide hY
  replace h0 := hide h0
  replace hown := hide hown
  refine callsIn_of_wp Tryz.func290 rfl trivial ?_ rfl
  simp only [Tryz.ntmps290, List.size_toArray, List.length_cons, List.length_nil, Nat.reduceAdd, Nat.reduceSub, Array.replicate_succ, Array.replicate_zero, List.push_toArray, List.append_toArray, List.nil_append, List.cons_append]
  gi_wp2_with fail
  refine ⟨trivial, fun h => (by cases h), (callsIn_wide.2 hall.out).mono ?_⟩
  rintro e W0 ⟨v, rfl, hs, hnew, hm⟩
  have dh := hm.cellAt id ch
  have dl := hm.cellAt id cl
  clear ch cl ct
  rcases hs with ⟨rfl, rfl⟩ | ⟨g, c, rfl, hc⟩
  · replace hm := hide hm
    replace hnew := hide hnew
    gi_wp2_with fail
    gi_loopw [10] (fun s10 wr => s10 = .int .i64 0 ∧ wr = W0) (fun _ _ => (0 : Nat))
    case atStart => exact ⟨rfl, rfl⟩
    case round =>
      obtain ⟨rfl, rfl⟩ := hrel
      gi_wp2
      go_end0
      have hm := hm.out
      exact ⟨⟨_, rfl⟩, hP.out _ _ _ h0.out hm, hm.mono (fun _ _ f => f.elim)⟩
  · have hg : ¬ Own g := fun ho => by have := hown.out g ho; have := hnew g rfl; omega
    have h00 : P (bestTo xs h life 0) W0 := hP.out _ _ _ h0.out hm
    replace hm := hide hm
    replace hnew := hide hnew
    replace hc := hide hc
    replace h00 := hide h00
    have hlen : (xs.length : Int) ≤ 8 := by omega
    gi_wp2_with fail
    gi_loopw [10] (fun s10 wr => ∃ k : Nat, s10 = .int .i64 k ∧ k ≤ xs.length ∧ P (bestTo xs h life k) wr ∧ Mod Own W0 wr) (fun s10 wr => xs.length - (match s10 with | .int _ i => i.toNat | _ => 0))
    case atStart => exact ⟨0, rfl, Nat.zero_le _, h00.out, Mod.refl _ _⟩
    case round =>
      obtain ⟨k, rfl, hk, hPk, hmk⟩ := hrel
      by_cases hkl : k < xs.length
      · obtain ⟨x, hx⟩ : ∃ x, xs[k]? = some x := ⟨xs[k], by simp [hkl]⟩
        have hxo := hok x (List.mem_of_getElem? hx)
        obtain ⟨e0, e1, e2, e3⟩ := smp_cells hc.out hx
        have e0 := hmk.cellAt hg e0
        have e1 := hmk.cellAt hg e1
        have e2 := hmk.cellAt hg e2
        have e3 := hmk.cellAt hg e3
        have e4 := hmk.cellAt nh dh
        have e5 := hmk.cellAt nl dl
        have l4 := lt_of_cell e4
        have l5 := lt_of_cell e5
        have hs : Hid (bestTo xs h life (k + 1) = _) := hide (bestTo_succ hx)
        have hfr : ∀ w', Calls Tryz.prog 292 #[x.val, .int .i64 h, .int .i64 life] w' fun e w'' => e = .returned (.bool (freshS x h life)) ∧ Mod NoB w' w'' := fun w' => fresh_any x.offset x.delay x.at' x.slewed h life hxo.a hh w'
        replace hfr := hide hfr
        replace hx := hide hx
        replace hPk := hide hPk
        replace hmk := hide hmk
        have hki : (k : Int) < xs.length := by omega
        clear hkl hk
        gi_wp2_with fail
        refine ⟨trivial, fun h => (by cases h), (callsIn_wide.2 (hfr.out _)).mono ?_⟩
        rintro e w5 ⟨rfl, hm5⟩
        have hb5 := hm5.heap (heap_alloc_new wr (.cells #[.int .i64 x.offset, .int .i64 x.delay, .int .i64 x.at', .int .i64 x.slewed] 94)) id
        have b0 := cell_of_block hb5 0 rfl
        have b1 := cell_of_block hb5 1 rfl
        have b2 := cell_of_block hb5 2 rfl
        have b3 := cell_of_block hb5 3 rfl
        have hm5' : Mod NoB wr w5 := ((Mod.refl NoB wr).alloc _).trans hm5
        clear hb5 hm5
        have hP5 := hide (hP.out _ _ _ hPk.out hm5')
        have hm6 : Hid (Mod Own W0 w5) := hide (hmk.out.trans (hm5'.mono (fun _ _ f => f.elim)))
        have hwk : wrap64 ((k : Int) + 1) = ((k + 1 : Nat) : Int) := by rw [wrap64_eq, wrap_in ⟨by omega, by omega⟩]; omega
        cases hf : freshS x h life with
        | false =>
          have hs2 : Hid (bestTo xs h life (k + 1) = bestTo xs h life k) := hide (by rw [hs.out, hf]; rfl)
          replace hf := hide hf
          gi_wp2_with fail
          refine ⟨fun f hf => (by cases hf), ?_⟩
          gi_wp2_with fail
          go_roundw
          case rel => exact ⟨k + 1, rfl, by omega, by rw [hs2.out]; exact hP5.out, hm6.out⟩
          case measure => simp; omega
        | true =>
          have hs2 : Hid (bestTo xs h life (k + 1) = pickS (bestTo xs h life k) x) := hide (by rw [hs.out, hf]; rfl)
          replace hf := hide hf
          obtain ⟨fn, tmps, assign, body, hy, hR⟩ := hY.out _ x w5 hP5.out
          gi_wp2_with fail
          refine ⟨fun h => (by cases h), hR.mono ?_⟩
          rintro e W2 ⟨rfl, hP2, hm2⟩
          have hm7 : Hid (Mod Own W0 W2) := hide (hm6.out.trans hm2)
          replace hP2 := hide hP2
          clear hm2
          gi_wp2_with fail
          go_roundw
          case rel => exact ⟨k + 1, rfl, by omega, by rw [hs2.out]; exact hP2.out, hm7.out⟩
          case measure => simp; omega
      · have hkl2 : k = xs.length := by omega
        have hki : ¬ ((k : Int) < xs.length) := by omega
        have hs : bestTo xs h life k = bestS xs h life := by unfold bestTo; rw [hkl2, List.take_length]
        rw [hs] at hPk
        replace hPk := hide hPk
        replace hmk := hide hmk
        gi_wp2
        go_end0
        refine ⟨⟨_, rfl⟩, hPk.out, ?_⟩
        have hm := hm.out
        exact (hm.mono (fun _ _ f => f.elim)).trans hmk.out
/-- A set of blocks, and the loop's own two. -/
def ownD (Own : Nat → Prop) (D : Nat) : Nat → Prop := fun k => Own k ∨ k = D ∨ k = D + 1
set_option maxHeartbeats 4000000 in
/-- 'for x := range s.fresh(h, life)', outermost; no round leaves it. -/
theorem rangeFresh (n : Nat) (b rb : Nat) (sl : Value) (xs : List SampleS) (h life : Int) (Bt Bh Bl : Nat) {g : Operand} {ps : Array Tmp} {assign body : Code} {Q : Exit → Act → World → Prop} {a : Act} {w : World}
    (hg : a.eval g = .func (.func 290) #[] #[at0 Bt, at0 Bh, at0 Bl])
    (hps : ps.size = 1) (Own : Nat → Prop) (J : Option SampleS → World → Prop) (hJm : ∀ o W W', J o W → Mod NoB W W' → J o W') (hJa : ∀ o, Apart w.heap.size (J o))
    (hst : StoreO w b rb sl xs) (hl : xs.length ≤ 8) (hok : ∀ x ∈ xs, x.Ok) (hh : I64 h)
    (ct : w.cell? ⟨Bt, 0, none⟩ = some (at0 b)) (ch : w.cell? ⟨Bh, 0, none⟩ = some (.int .i64 h)) (cl : w.cell? ⟨Bl, 0, none⟩ = some (.int .i64 life))
    (nh : ¬ Own Bh) (nl : ¬ Own Bl) (hown : ∀ k, Own k → k < w.heap.size) (h0 : J none w) (a₁ : SampleS → Nat → Act)
    (hassign : ∀ (l : Nat) (x : SampleS) (W : World) (K : Act → World → Prop), K (a₁ x W.heap.size) (W.alloc (.cells x.cells.toArray 94)) →
      assign.wpIn (Fence.wide.inRound l) (n - 1 - 1) Tryz.prog (Exit.then K (fun _ _ _ => False)) { tmps := (ps.zip #[x.val]).foldl (fun t (p, v) => t.setIfInBounds p v) a.tmps, defers := [] } W)
    (hbody : ∀ (l : Nat) (o : Option SampleS) (x : SampleS) (W : World) (g : Nat), w.heap.size + 1 < g → W.heap[g]? = some (.cells x.cells.toArray 94 (0, 0)) → J o W → body.wpIn (Fence.wide.inRound l) (n - 1 - 1) Tryz.prog (fun e _ W' => e = .normal ∧ J (pickS o x) W' ∧ Mod Own W W') (a₁ x g) W)
    (hdone : ∀ W, J (bestS xs h life) W → Mod Own w W → W.heap[w.heap.size]? = some (.deferred (some [])) → Q .normal { a with defers := { target := .collected w.heap.size, args := #[] } :: a.defers } W) :
    (Code.rangeFunc g ps assign body).wpIn Fence.wide n Tryz.prog Q a w := by
  have hlh := lt_of_cell ch
  have hll := lt_of_cell cl
  refine wpIn_rangeFunc ?_
  intro fn hfn
  obtain ⟨rec, hrec⟩ : ∃ rec : LoopState → Option Code → Loop, rec = fun st pe => { state := st, pending := pe, fn, tmps := a.tmps, params := ps, assign, body, defers := w.heap.size } := ⟨_, rfl⟩
  obtain ⟨W1, hW1⟩ : ∃ W1, (w.alloc (.deferred (some []))).alloc (.loop (rec .ready none)) = W1 := ⟨_, rfl⟩
  have hL1 : W1.heap[w.heap.size + 1]? = some (.loop (rec .ready none)) := by
    rw [← hW1]
    have := heap_alloc_new (w.alloc (.deferred (some []))) (.loop (rec .ready none))
    rwa [World.size_alloc] at this
  have hD1 : W1.heap[w.heap.size]? = some (.deferred (some [])) := by
    rw [← hW1, heap_alloc_old (by simp)]
    exact heap_alloc_new w _
  have hm1 : Mod NoB w W1 := by rw [← hW1]; exact ((Mod.refl _ _).alloc _).alloc _
  have hs1 : W1.heap.size = w.heap.size + 1 + 1 := by rw [← hW1]; simp
  refine ⟨w.heap.size + 1, [{ target := .collected w.heap.size, args := #[] }], W1, { target := .fn (.func 290) #[at0 Bt, at0 Bh, at0 Bl], args := #[.func (.yield (w.heap.size + 1)) #[] #[]] }, W1, 290,
    #[.func (.yield (w.heap.size + 1)) #[] #[]] ++ #[at0 Bt, at0 Bh, at0 Bl], W1, ?_, ?_, ?_, ?_, fun h => (by cases h), ?_⟩
  · rw [← hW1, hrec]
    exact run_enterLoop_outer _ _ _ _ _
  · simp only [resolve, hg]
    simp [go_sem]
  · intro f' hf'
    exact trivial
  · simp [invoke, go_sem]
  · refine (freshIter (n - 1) b rb sl xs h life Bt Bh Bl (w.heap.size + 1) (ownD Own w.heap.size)
      (fun o W => J o W ∧ W.heap[w.heap.size + 1]? = some (.loop (rec .ready none)) ∧ W.heap[w.heap.size]? = some (.deferred (some [])))
      W1 (hst.mod hm1 id id (fun _ _ => id)) hl hok hh (hm1.cellAt id ct) (hm1.cellAt id ch) (hm1.cellAt id cl) ?_ ?_ ?_ ?_ ?_ ⟨hJm _ _ _ h0 hm1, hL1, hD1⟩).mono ?_
    · rintro (h | h | h)
      · exact nh h
      · omega
      · omega
    · rintro (h | h | h)
      · exact nl h
      · omega
      · omega
    · rintro k (h | h | h)
      · have := hown k h; omega
      · omega
      · omega
    · rintro o W W' ⟨h1, h2, h3⟩ hm
      exact ⟨hJm _ _ _ h1 hm, hm.heap h2 id, hm.heap h3 id⟩
    · rintro o x W ⟨h1, h2, h3⟩
      have hlt : w.heap.size + 1 < W.heap.size := lt_of_block h2
      have hy := run_yield (P := Tryz.prog) (args := #[x.val]) h2 (by rw [hrec]; exact hps.symm)
      rw [hrec] at hy
      obtain ⟨Wb, hWb⟩ : ∃ Wb, W.alloc (.cells x.cells.toArray 94) = Wb := ⟨_, rfl⟩
      have hma : Mod NoB W Wb := hWb ▸ (Mod.refl _ _).alloc _
      have hx : Wb.heap[W.heap.size]? = _ := hWb ▸ heap_alloc_new W (.cells x.cells.toArray 94)
      have h1 := hJm _ _ _ h1 hma
      have h2 := hma.heap h2 id
      have h3 := hma.heap h3 id
      have hltb : w.heap.size + 1 < Wb.heap.size := lt_of_block h2
      have hb2 : (Wb.putObj (w.heap.size + 1) (.loop { rec .ready none with state := .busy })).heap[w.heap.size + 1]? = some (.loop { rec .ready none with state := .busy }) := World.putObj_heap_same hltb
      have hb3 : (Wb.putObj (w.heap.size + 1) (.loop { rec .ready none with state := .busy })).heap[w.heap.size]? = some (.deferred (some [])) := (World.putObj_heap_other (by omega)).trans h3
      have hbx : (Wb.putObj (w.heap.size + 1) (.loop { rec .ready none with state := .busy })).heap[W.heap.size]? = _ := (World.putObj_heap_other (by omega)).trans hx
      have hmb : Mod (ownD Own w.heap.size) W (Wb.putObj (w.heap.size + 1) (.loop { rec .ready none with state := .busy })) := (hma.mono (fun _ _ f => f.elim)).putObj (Or.inl (Or.inr (Or.inr rfl))) _
      refine ⟨fn, _, assign, body, hy, roundIn_of_wpIn hfn (hassign _ x W _ ?_)⟩
      rw [hWb]
      refine ⟨_, run_beginRound h2 (by rw [hrec]), ?_⟩
      refine wpIn_mono (hbody _ o x _ W.heap.size hlt hbx (hJa o _ _ _ (by omega) (by omega) h1)) ?_
      rintro e a3 W3 ⟨rfl, hj3, hm3⟩
      have hl3 := hm3.heap hb2 (fun ho => by have := hown _ ho; omega)
      have hd3 := hm3.heap hb3 (fun ho => by have := hown _ ho; omega)
      have he := run_endRound (P := Tryz.prog) none hl3
      refine ⟨_, _, he, rfl, ⟨hJa _ _ _ _ (by omega) (by omega) hj3, ?_, (World.putObj_heap_other (by omega)).trans hd3⟩, ?_⟩
      · rw [hrec]
        exact World.putObj_heap_same (lt_of_block hl3)
      · exact (hmb.trans (hm3.mono (fun _ _ h => Or.inl h))).putObj (Or.inl (Or.inr (Or.inr rfl))) _
    · rintro e W2 ⟨⟨v, rfl⟩, ⟨h1, h2, h3⟩, hm2⟩
      have he := run_endLoop (P := Tryz.prog) h2 (by rw [hrec]; simp)
      have hmf : Mod Own w W2 := (hm1.mono (fun _ _ f => f.elim)).into hm2 (by
        rintro k (h | h | h)
        · exact Or.inl h
        · exact Or.inr (by omega)
        · exact Or.inr (by omega))
      exact ⟨_, _, he, by rw [hrec]; exact hdone _ (hJa _ _ _ _ (by omega) (by omega) h1) (hmf.putObj (Or.inr (by omega)) _) ((World.putObj_heap_other (by omega)).trans h3)⟩
end Go.Proofs.YtjlilmonpklghaaGreatDoor

