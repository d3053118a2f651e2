/- daemon.New: what it comes to; its first daemon, of no server: plain. fresh.New, and its ring (contracts). daemon.New: its two appends: plain. daemon.New: a round of it, done: plain. -/
import Derived.Test.YtpjfiplejhbdfaaGreatDoorPUbc
import Derived.Test.YtpjfiplejhbdfaaGreatDoorPUba
import Derived.Test.YtpjfiplejhbdfaaGreatDoorPUao
namespace Go.Proofs.YtpjfiplejhbdfaaGreatDoor
set_option linter.unusedSimpArgs false
open Go.RowKit

/-- New: in which line it is wrong, and why; or its config. -/
def newOut (l : List UInt8) (h clock : Int) : (Int × Int) ⊕ Cfg :=
  if (parseR l).2.2 ≠ 0 then .inl ((parseR l).2.1, (parseR l).2.2) else if newErr h clock ≠ 0 then .inl (0, newErr h clock) else .inr (parseR l).1
theorem newOut_no {l : List UInt8} {h clock line er : Int} (e : newOut l h clock = .inl (line, er)) : er ≠ 0 := by
  unfold newOut at e
  split at e
  · cases e; assumption
  · split at e
    · cases e; assumption
    · cases e
theorem newOut_yes {l : List UInt8} {h clock : Int} {c : Cfg} (e : newOut l h clock = .inr c) : (parseR l).2.2 = 0 ∧ (parseR l).1 = c ∧ checkC c = 0 ∧ newErr h clock = 0 := by
  unfold newOut at e
  split at e
  · cases e
  · rename_i h1
    split at e
    · cases e
    · rename_i h2
      cases e
      have h3 := Decidable.of_not_not h1
      refine ⟨h3, rfl, ?_, Decidable.of_not_not h2⟩
      rcases parse_cases l with ⟨_, _, h⟩ | ⟨h, _⟩
      · exact h
      · exact absurd h3 h
def DNewPost (l : List UInt8) (h clock : Int) (w : World) (e : Ending) (w' : World) : Prop :=
  Mod NoB w w' ∧ ((∃ line er, e = .returned (.tuple #[.pointer none, .int .i64 line, .int .i64 er]) ∧ newOut l h clock = .inl (line, er)) ∨
    ∃ P c, e = .returned (.tuple #[at0 P.b, .int .i64 0, .int .i64 0]) ∧ newOut l h clock = .inr c ∧ DO w' P (newS c h clock) ∧ ∀ k, fpD P k → w.heap.size ≤ k)
/-- Of the first k servers. -/
def newK (c : Cfg) (h clock : Int) (k : Nat) : DaemonS := { newS c h clock with ps := List.replicate k (newPeer c h), ss := List.replicate k [] }
theorem newK_all (c : Cfg) (h clock : Int) : newK c h clock c.srv.length = newS c h clock := by
  unfold newK newS
  simp [List.map_const']
theorem newK_succ (c : Cfg) (h clock : Int) (k : Nat) : newD (newK c h clock k) (newPeer c h) = newK c h clock (k + 1) := by
  unfold newK newD
  simp [List.replicate_succ']
def newP0 (b bk : Nat) (sp : Option Addr) (sc bq bqm bc lo : Nat) : DPl := ⟨b, bk, sp, sc, .slice none 0 0, [], .slice none 0 0, [], bq, bqm, bc, .slice none 0 0, lo⟩
theorem newP0_fp {b bk : Nat} {sp : Option Addr} {sc bq bqm bc lo n : Nat} (hb : n ≤ b) (hk : n ≤ bk) (hq : n ≤ bq) (hm : n ≤ bqm) (hc : n ≤ bc) (hs : ∀ g off, sp = some ⟨g, off, none⟩ → n ≤ g) : ∀ k, fpD (newP0 b bk sp sc bq bqm bc lo) k → n ≤ k := by
  intro k h
  rcases h with rfl | rfl | ⟨x, hx, _⟩ | ⟨x, hx, _⟩ | rfl | rfl | rfl | h | h | h | ⟨off, h⟩
  · exact hb
  · exact hk
  · simp [newP0] at hx
  · simp [newP0] at hx
  · exact hq
  · exact hm
  · exact hc
  · cases h
  · cases h
  · cases h
  · exact hs k off h
theorem newK_DO {w : World} {b bk : Nat} {sp : Option Addr} {sc bq bqm bc lo : Nat} {c : Cfg} {h clock : Int}
    (hb : w.heap[b]? = some (.cells #[.slice sp c.srv.length sc, .int .i64 c.q, .int .i64 c.l, .int .i64 c.m, .int .i64 c.d, .int .i64 c.s, at0 bk, .slice none 0 0, .slice none 0 0, at0 bq, at0 bc, .int .u64 0, .int .i64 h, .int .i64 0, .slice none 0 0, .int .i64 0] 100 (0, 0)))
    (hi : IntsL w sp c.srv) (hil : ∀ g off, sp = some ⟨g, off, none⟩ → g < lo) (hk : KO w bk ⟨h, clock, 0, 0, c.s⟩) (hq : QO w bq bqm []) (hc : CO w bc (List.replicate 13 0))
    (hlo : lo ≤ b ∧ lo ≤ bk ∧ lo ≤ bq ∧ lo ≤ bqm ∧ lo ≤ bc) (hlt : lo ≤ w.heap.size) : DO w (newP0 b bk sp sc bq bqm bc lo) (newK c h clock 0) :=
  ⟨hb, hi, hil, hk, ⟨rfl, Or.inl ⟨rfl, rfl⟩⟩, rfl, fun i x p hx => by simp [newP0] at hx, List.Pairwise.nil, fun x hx => by simp [newP0] at hx, ⟨rfl, Or.inl ⟨rfl, rfl⟩⟩, rfl, fun s hs => by simp [newP0] at hs, List.Pairwise.nil, fun s hs => by simp [newP0] at hs,
    ⟨[], hq, rfl⟩, hc, ⟨rfl, Or.inl ⟨rfl, rfl⟩⟩, hlo, hlt⟩
end Go.Proofs.YtpjfiplejhbdfaaGreatDoor

namespace Go.Proofs.YtpjfiplejhbdfaaGreatDoor
set_option linter.unusedSimpArgs false
open Go.RowKit

theorem ringnew_any (w : World) :
    Calls Tryz.prog 76 #[.int .i64 8] w fun e w' => e = .returned (.tuple #[at0 w.heap.size, .int .i64 0]) ∧ RingO w' w.heap.size (.slice none 0 0) [] ∧ Mod NoB w w' := by
  go_enter Tryz.func76, Tryz.ntmps76
  go_wp2
  go_ret2
  exact ⟨rfl, ⟨⟨0, by decide, heap_alloc_new _ _⟩, rfl, Or.inl ⟨rfl, rfl⟩⟩, (Mod.refl _ _).alloc _⟩
theorem fnew_any (w : World) :
    Calls Tryz.prog 40 #[] w fun e w' => ∃ b rb, e = .returned (at0 b) ∧ StoreO w' b rb (.slice none 0 0) [] ∧ w.heap.size ≤ b ∧ w.heap.size ≤ rb ∧ b ≠ rb ∧ Mod NoB w w' := by
  have h1 := hide (ringnew_any w)
  go_enter Tryz.func40, Tryz.ntmps40
  go_wp2_with fail
  refine h1.out.mono ?_
  rintro e w' ⟨rfl, hr, hm⟩
  have hbk := hr.blk
  have hlt : w.heap.size < w'.heap.size := by obtain ⟨_, _, h⟩ := hbk; exact lt_of_block h
  clear hbk
  replace hr := hide hr
  replace hm := hide hm
  go_wp2
  go_ret
  refine ⟨_, w.heap.size, rfl, ⟨heap_alloc_new _ _, hr.out.mod ((Mod.refl NoB w').alloc _) id (fun g hg => (by cases hg))⟩, by omega, Nat.le_refl _, by omega, hm.out.alloc _⟩
end Go.Proofs.YtpjfiplejhbdfaaGreatDoor

namespace Go.Proofs.YtpjfiplejhbdfaaGreatDoor
set_option linter.unusedSimpArgs false
open Go.RowKit

theorem infoPP : (Tryz.prog.info? 101).map (fun i => (i.zero, i.size, i.bytes)) = some (some (.pointer none), 1, 8) := by kernel_rfl
theorem infoPS : (Tryz.prog.info? 104).map (fun i => (i.zero, i.size, i.bytes)) = some (some (.pointer none), 1, 8) := by kernel_rfl
theorem cells1_new (w : World) (x : Value) (t : TypeId) : ∀ j v, [x][j]? = some v → (w.alloc (.cells #[x] t)).cell? ((⟨w.heap.size, 0, none⟩ : Addr).add j) = some v := by
  intro j v hj
  have hn := heap_alloc_new w (.cells #[x] t)
  rw [show ((⟨w.heap.size, 0, none⟩ : Addr).add j) = ⟨w.heap.size, j, none⟩ by simp [Addr.add]; omega]
  exact cell_of_block hn j (by simpa using hj)
/-- What may turn by two appends. -/
def twoS (b : Nat) (pv sv : Value) (j : Nat) : Prop := j = b ∨ pv.ownBlock = some j ∨ sv.ownBlock = some j
/-- Behind the appends. -/
structure GrowCut (wa : World) (b k : Nat) (pv sv : Value) (xs ys : List Value) (pb : Nat) (cs : Value → Value → Array Value) (pv' sv' : Value) (sb rb : Nat) (wx : World) : Prop where
  blk : wx.heap[b]? = some (.cells (cs pv' sv') 100 (0, 0))
  pr : wx.ownsRow 0 101 1 pv' (k + 1) (xs ++ [at0 pb])
  sr : wx.ownsRow 0 104 1 sv' (k + 1) (ys ++ [at0 sb])
  st : StoreO wx sb rb (.slice none 0 0) []
  s1 : wa.heap.size ≤ sb ∧ wa.heap.size ≤ rb
  m : Mod (twoS b pv sv) wa wx
  op : ∀ g, pv'.ownBlock = some g → pv.ownBlock = some g ∨ wa.heap.size ≤ g
  os : ∀ g, sv'.ownBlock = some g → sv.ownBlock = some g ∨ wa.heap.size ≤ g
theorem growCut_of {wa w7 w8 w9 : World} {b k pb sb rb : Nat} {pv sv v7 v9 : Value} {xs ys : List Value} {C Ca : Array Value} {cs : Value → Value → Array Value} (hb9 : w9.heap[b]? = some (.cells C 100 (0, 0))) (hC : ∀ u v, (C.setIfInBounds 7 u).setIfInBounds 8 v = cs u v)
    (hm7 : Mod (fun j => pv.ownBlock = some j) wa w7) (hm8 : Mod NoB w7 w8) (hm9 : Mod (fun j => sv.ownBlock = some j) w8 w9) (h7 : w7.ownsRow 0 101 1 v7 (k + 1) (xs ++ [at0 pb])) (h9 : w9.ownsRow 0 104 1 v9 (k + 1) (ys ++ [at0 sb]))
    (hst : StoreO w8 sb rb (.slice none 0 0) []) (hs1 : w7.heap.size ≤ sb) (hs2 : w7.heap.size ≤ rb) (hat7 : ∀ g, v7.ownBlock = some g → pv.ownBlock = some g ∨ wa.heap.size ≤ g) (hat9 : ∀ g, v9.ownBlock = some g → sv.ownBlock = some g ∨ w8.heap.size ≤ g)
    (hsr : wa.ownsRow 0 104 1 sv k ys) (hpr : wa.ownsRow 0 101 1 pv k xs) (hba : wa.heap[b]? = some (.cells Ca 100 (0, 0))) :
    GrowCut wa b k pv sv xs ys pb cs v7 v9 sb rb ((w9.setCell ⟨b, 7, none⟩ v7).setCell ⟨b, 8, none⟩ v9) := by
  have hset : Mod (· = b) w9 ((w9.setCell ⟨b, 7, none⟩ v7).setCell ⟨b, 8, none⟩ v9) := ((Mod.refl _ _).set1 _ _).set1 _ _
  have hs8 := hm8.size
  have hs7 := hm7.size
  have hsvt : ∀ g, sv.ownBlock = some g → ∃ cu, w8.heap[g]? = some (.cells cu 104 (0, 0)) := fun g hg => by
    obtain ⟨cu, hcu⟩ := own_block hsr hg
    refine ⟨cu, hm8.heap (hm7.heap hcu (fun e => ?_)) id⟩
    obtain ⟨cu2, hcu2⟩ := own_block hpr e
    exact ne_type hcu hcu2 (by decide) rfl
  have h78 := ownsRow_mod2 h7 hm8 (fun _ _ => id)
  have h79 := ownsRow_mod2 h78 hm9 (fun g hg e => by
    obtain ⟨cu, hcu⟩ := own_block h78 hg
    obtain ⟨cu2, hcu2⟩ := hsvt g e
    exact ne_type hcu hcu2 (by decide) rfl)
  obtain ⟨c0, _, hrb⟩ := hst.ring.blk
  refine ⟨?_, ownsRow_mod2 h79 hset (fun g hg e => ?_), ownsRow_mod2 h9 hset (fun g hg e => ?_), (hst.mod hm9 (fun e => ?_) (fun e => ?_) (fun g hg => by cases hg)).mod hset (fun e => ?_) (fun e => ?_) (fun g hg => by cases hg), ⟨by omega, by omega⟩, ?_, hat7, fun g hg => (hat9 g hg).elim Or.inl (fun h => Or.inr (by omega))⟩
  · rw [heap_setCell_eq (heap_setCell_eq hb9 _), hC]
  · obtain ⟨cu, hcu⟩ := own_block h79 hg
    exact ne_type hcu hb9 (by decide) e
  · obtain ⟨cu, hcu⟩ := own_block h9 hg
    exact ne_type hcu hb9 (by decide) e
  · obtain ⟨cu, hcu⟩ := hsvt sb e
    exact ne_type hcu hst.blk (by decide) rfl
  · obtain ⟨cu, hcu⟩ := hsvt rb e
    exact ne_type hcu hrb (by decide) rfl
  · have := lt_of_block hba
    omega
  · have := lt_of_block hba
    omega
  · exact (((hm7.mono (fun _ _ h => Or.inr (Or.inl h))).trans (hm8.mono (fun _ _ h => h.elim))).trans (hm9.mono (fun _ _ h => Or.inr (Or.inr h)))).trans (hset.mono (fun _ _ h => Or.inl h))
/-- What a round of New keeps. -/
structure NewL (P : DPl) (b : Nat) (p : Option Addr) (cp A : Nat) (cf : Cfg) (w wr : World) : Prop where
  b : P.b = b
  sp : P.sp = p
  sc : P.sc = cp
  lo : P.lo = A
  cfg : wr.heap[A]? = some (.cells #[.slice p cf.srv.length cp, .int .i64 cf.q, .int .i64 cf.l, .int .i64 cf.m, .int .i64 cf.d, .int .i64 cf.s] 31 (0, 0))
  m : Mod NoB w wr
  fp : ∀ j, fpD P j → w.heap.size ≤ j
  g : ∀ j, growS P j → A < j
end Go.Proofs.YtpjfiplejhbdfaaGreatDoor

namespace Go.Proofs.YtpjfiplejhbdfaaGreatDoor
set_option linter.unusedSimpArgs false
open Go.RowKit

theorem growS_fp {P : DPl} {j : Nat} (h : growS P j) : fpD P j := by
  rcases h with h | h | h | h | h
  · exact h ▸ .b
  · exact .pv h
  · exact .sv h
  · exact h ▸ .bq
  · exact h ▸ .bqm
theorem twoS_grow {P : DPl} {b j : Nat} (hb : P.b = b) (h : twoS b P.pv P.sv j) : growS P j := by
  rcases h with h | h | h
  · exact Or.inl (by rw [hb]; exact h)
  · exact Or.inr (Or.inl h)
  · exact Or.inr (Or.inr (Or.inl h))
section
variable {wr wa wx : World} {P : DPl} {d : DaemonS} {b k pb pk sb rb : Nat} {cs : Value → Value → Array Value} {pv' sv' : Value} {pe : PeerS}
theorem grow_peer (hd : DO wr P d) (hb : P.b = b) (hg : GrowCut wa b k P.pv P.sv (P.pbs.map fun x => at0 x.1) (P.ss.map fun s => at0 s.b) pb cs pv' sv' sb rb wx) (hpo : PeerO wa pb pk pe) (h1 : wr.heap.size ≤ pb) (h2 : wr.heap.size ≤ pk) : PeerO wx pb pk pe :=
  hpo.mod hg.m (fun h => by have := hd.lt _ (growS_fp (twoS_grow hb h)); omega) (fun h => by have := hd.lt _ (growS_fp (twoS_grow hb h)); omega)
theorem grow_que (hd : DO wr P d) (hb : P.b = b) (hma : Mod NoB wr wa) (hg : GrowCut wa b k P.pv P.sv (P.pbs.map fun x => at0 x.1) (P.ss.map fun s => at0 s.b) pb cs pv' sv' sb rb wx) {L : List (Int × Int)} (hq : QO wr P.bq P.bqm L) : QO wx P.bq P.bqm L := by
  obtain ⟨nq, hqb⟩ := hq.blk
  have hn : ∀ j, twoS b P.pv P.sv j → ∃ c t f, wr.heap[j]? = some (.cells c t f) ∧ t ≠ 169 := by
    rintro j (h | h | h)
    · exact ⟨_, _, _, by rw [h, ← hb]; exact hd.blk, by decide⟩
    · obtain ⟨cu, hcu⟩ := own_block hd.prow h
      exact ⟨_, _, _, hcu, by decide⟩
    · obtain ⟨cu, hcu⟩ := own_block hd.srow h
      exact ⟨_, _, _, hcu, by decide⟩
  refine (hq.mod hma id id).mod hg.m (fun h => ?_) (fun h => ?_)
  · obtain ⟨c, t, f, h1, h2⟩ := hn _ h
    exact ne_type h1 hqb h2 rfl
  · obtain ⟨c, t, f, h1, _⟩ := hn _ h
    rw [hq.map] at h1
    cases h1
theorem grow_done {wn wy : World} {L : List (Int × Int)} (hd : DO wr P d) (hb : P.b = b) (hma : Mod NoB wr wa) (hpl : P.pbs.length = k) (hsl : P.ss.length = k)
    (hg : GrowCut wa b k P.pv P.sv (P.pbs.map fun x => at0 x.1) (P.ss.map fun s => at0 s.b) pb (fun u v => #[.slice P.sp d.c.srv.length P.sc, .int .i64 d.c.q, .int .i64 d.c.l, .int .i64 d.c.m, .int .i64 d.c.d, .int .i64 d.c.s, at0 P.bk, u, v, at0 P.bq, at0 P.bc, .int .u64 (d.draw : Int), .int .i64 d.h, .int .i64 d.theta, P.vv, .int .i64 d.chosen]) pv' sv' sb rb wx)
    (hpo : PeerO wa pb pk pe) (h1 : wr.heap.size ≤ pb) (h2 : wr.heap.size ≤ pk) (hmN : Mod NoB wx wn) (hmS : Mod (fun j => j = P.bq ∨ j = P.bqm) wn wy) (hq : QO wy P.bq P.bqm L) (hL : L.length = d.ps.length + 1) (hlo : ∀ j, growS P j → P.lo ≤ j) :
    DO wy (newP P pv' sv' pb pk sb rb) (newD d pe) ∧ Mod (growS P) wr wy ∧ (∀ j, fpD (newP P pv' sv' pb pk sb rb) j → fpD P j ∨ wr.heap.size ≤ j) ∧ ∀ j, growS (newP P pv' sv' pb pk sb rb) j → growS P j ∨ wr.heap.size ≤ j := by
  obtain ⟨L0, hq0, _⟩ := hd.que
  obtain ⟨nq, hqb⟩ := hq0.blk
  have hqx := grow_que hd hb hma hg hq0
  obtain ⟨nx, hqx1⟩ := (hqx.mod hmN id id).blk
  have hqx2 := (hqx.mod hmN id id).map
  have hpx := (grow_peer hd hb hg hpo h1 h2).mod hmN id id
  have hsa := hma.size
  have hm : Mod (growS P) wr wy := (((hma.mono (fun _ _ f => f.elim)).trans (hg.m.mono (fun _ _ h => twoS_grow hb h))).trans (hmN.mono (fun _ _ f => f.elim))).trans (hmS.mono (fun _ _ h => h.elim (fun e => Or.inr (Or.inr (Or.inr (Or.inl e)))) (fun e => Or.inr (Or.inr (Or.inr (Or.inr e))))))
  have hOn : Only [tQue, none] 0 wn (fun j => j = P.bq ∨ j = P.bqm) := by
    rintro j (h | h)
    · exact ⟨Nat.zero_le _, fun o ho => by rw [h, hqx1] at ho; cases ho; simp [tyOf]⟩
    · exact ⟨Nat.zero_le _, fun o ho => by rw [h, hqx2] at ho; cases ho; simp [tyOf]⟩
  have hpv : ∀ g, pv'.ownBlock = some g → P.pv.ownBlock = some g ∨ wr.heap.size ≤ g := fun g h => (hg.op g h).elim Or.inl (fun h => Or.inr (by omega))
  have hsv : ∀ g, sv'.ownBlock = some g → P.sv.ownBlock = some g ∨ wr.heap.size ≤ g := fun g h => (hg.os g h).elim Or.inl (fun h => Or.inr (by omega))
  have hs1 : wr.heap.size ≤ sb := by have := hg.s1.1; omega
  have hs2 : wr.heap.size ≤ rb := by have := hg.s1.2; omega
  refine ⟨hd.grow hm hlo ?_ ?_ ?_ ?_ ?_ h1 h2 hs1 hs2 hq hL, hm, newP_fp h1 h2 hs1 hs2 hpv hsv, ?_⟩
  · rw [hb]
    exact hmS.keepc hOn (hmN.heap hg.blk id) (by decide)
  · rw [hpl]
    exact ownsRow_keep hmS hOn (ownsRow_mod2 hg.pr hmN (fun _ _ => id)) (by decide)
  · rw [hsl]
    exact ownsRow_keep hmS hOn (ownsRow_mod2 hg.sr hmN (fun _ _ => id)) (by decide)
  · exact PeerO.keep hmS hOn hpx (by decide) (by decide)
  · exact StoreO.keep hmS hOn (hg.st.mod hmN id id (fun _ _ => id)) (by decide) (by decide) (by decide)
  · rintro j (h | h | h | h | h)
    · exact Or.inl (Or.inl h)
    · exact (hpv j h).elim (fun h => Or.inl (Or.inr (Or.inl h))) Or.inr
    · exact (hsv j h).elim (fun h => Or.inl (Or.inr (Or.inr (Or.inl h)))) Or.inr
    · exact Or.inl (Or.inr (Or.inr (Or.inr (Or.inl h))))
    · exact Or.inl (Or.inr (Or.inr (Or.inr (Or.inr h))))
end
theorem qfor_rep {L : List (Int × Int)} {pe : PeerS} {k : Nat} (h : QFor L (List.replicate k pe) k) (hL : L.length = k) (s : Int) : QFor (qput L k (pe.next, s)) (List.replicate (k + 1) pe) (k + 1) := by
  have h2 : QFor L (List.replicate (k + 1) pe) k := fun i hi p hp => h i hi p (by
    rw [List.getElem?_replicate, if_pos (by omega)] at hp
    rw [List.getElem?_replicate, if_pos hi]
    exact hp)
  exact h2.put (by omega) (by rw [List.getElem?_replicate, if_pos (by omega)]) s
end Go.Proofs.YtpjfiplejhbdfaaGreatDoor

