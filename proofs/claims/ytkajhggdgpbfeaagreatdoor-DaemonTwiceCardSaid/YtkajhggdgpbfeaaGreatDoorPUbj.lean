/- What is sent, in bounds; an event behind an act, in bounds: plain. Contracts of Do and Same, put together. What was sent, and may be turned; blocks that are no daemon's by their type. The document's line of a config (chapter 6), walked. More words on arguments: an array of integers handed in by value. Maps with ints as keys, by what they tell of each. -/
import Derived.Test.YtkajhggdgpbfeaaGreatDoorPUbi
import Derived.Test.YtkajhggdgpbfeaaGreatDoorPUbc
import Derived.Test.YtkajhggdgpbfeaaGreatDoorPUaa
import Derived.Deep.Slices
import Derived.Test.YtkajhggdgpbfeaaGreatDoorPUba
namespace Go.Proofs.YtkajhggdgpbfeaaGreatDoor
set_option linter.unusedSimpArgs false
open Go.RowKit

theorem query_len (a : Nat) : (queryP a).bytes.length = 48 := by simp [queryP, PktS.bytes, be_len]
theorem query_lt (a : Nat) : ∀ y ∈ (queryP a).bytes, y < 256 := by
  intro y hy
  simp only [queryP, pkt0, PktS.bytes, List.mem_append, List.mem_cons, List.not_mem_nil, or_false] at hy
  rcases hy with ((((((h | h) | h) | h) | h) | h) | h) | h
  · rcases h with h | h | h | h <;> subst h <;> decide
  all_goals exact be_lt _ _ y h
theorem askSends_len (h c : Int) (draw : Nat) (ps : List PeerS) (srv : List Int) : (askSends h c draw ps srv).length ≤ srv.length := by
  unfold askSends
  refine Nat.le_trans (List.length_filterMap_le _ _) ?_
  rw [List.length_zip]
  omega
theorem do_sendsOk {d : DaemonS} (hd : d.Ok) (e : EvS) : SendsOk (doS d e).2.sends ∧ (doS d e).2.sends.length ≤ 16 := by
  have h16 := (fine_srv (check_fine hd.c)).2.1
  have nil : SendsOk [] ∧ ([] : List (Int × List Nat)).length ≤ 16 := ⟨fun _ h => (by cases h), by decide⟩
  unfold doS
  split
  · exact nil
  · split
    · refine ⟨fun x hx => ?_, ?_⟩
      · obtain ⟨i, p, q, _, _, _, h⟩ := askSends_mem hx
        rw [h, query_len]
        exact ⟨query_lt _, by omega, by omega⟩
      · exact Nat.le_trans (askSends_len _ _ _ _ _) h16
    · exact nil
theorem evOf_in {x : ActS} (ik : I64 x.e.kind) (ih : I64 x.e.h) (ia : I64 x.e.addr) (id' : x.e.draw < 18446744073709551616) (dr : Nat) : I64 (evOf x dr).kind ∧ I64 (evOf x dr).h ∧ I64 (evOf x dr).addr ∧ (evOf x dr).draw < 18446744073709551616 := by
  unfold evOf
  split
  · exact ⟨⟨by simp, by simp⟩, ih, ia, by simp⟩
  · exact ⟨ik, ih, ia, id'⟩
theorem err_in (d : DaemonS) (e : EvS) : 0 ≤ errS d e ∧ errS d e ≤ 10 := by
  unfold errS
  repeat' split
  all_goals exact ⟨by decide, by decide⟩
theorem DataAt.lt {w : World} {dp : Option Addr} {n c : Nat} {l : List Nat} (h : DataAt w (.slice dp n c) l) : ∀ bd off, dp = some ⟨bd, off, none⟩ → 0 < l.length → bd < w.heap.size := by
  intro bd off hp h0
  obtain ⟨p, c', h1, _, h3⟩ := h
  obtain ⟨b2, o2, e, _, _, hb⟩ := h3 h0
  obtain ⟨rfl, _⟩ := Value.slice.inj h1
  rw [hp] at e
  cases e
  exact lt_of_cell (hb.cell 0 h0)
/-- Data apart of a daemon that goes on. -/
theorem DTo.data {w w' : World} {P P1 : DPl} (ht : DTo P P1 w w') {dp : Option Addr} {n c : Nat} {l : List Nat} (hda : DataAt w (.slice dp n c) l) (hap : ∀ bd off, dp = some ⟨bd, off, none⟩ → 0 < l.length → ¬ fpD P bd) :
    DataAt w' (.slice dp n c) l ∧ ∀ bd off, dp = some ⟨bd, off, none⟩ → 0 < l.length → ¬ fpD P1 bd :=
  ⟨DataAt.modS hda ht.m (fun bd off p n hp h0 => by obtain ⟨rfl, _⟩ := Value.slice.inj hp; exact hap bd off rfl h0),
   fun bd off e h0 hf => (ht.f _ hf).elim (hap bd off e h0) (fun h => Nat.lt_irrefl _ (Nat.lt_of_lt_of_le (hda.lt bd off e h0) h))⟩
/-- A block apart of a daemon that goes on. -/
theorem DTo.block {w w' : World} {P P1 : DPl} (ht : DTo P P1 w w') {k : Nat} {o : Obj} (h : w.heap[k]? = some o) (hn : ¬ fpD P k) : w'.heap[k]? = some o ∧ ¬ fpD P1 k :=
  ⟨ht.m.heap h hn, fun hf => (ht.f _ hf).elim hn (fun x => Nat.lt_irrefl _ (Nat.lt_of_lt_of_le (by
    rcases Nat.lt_or_ge k w.heap.size with h1 | h1
    · exact h1
    · rw [Array.getElem?_eq_none h1] at h; cases h) x))⟩
/-- A row apart of a daemon that goes on. -/
theorem DTo.row {w w' : World} {P P1 : DPl} (ht : DTo P P1 w w') {base size n : Nat} {e : TypeId} {v : Value} {xs : List Value} (h : w.ownsRow base e size v n xs) (hn : ∀ g, v.ownBlock = some g → ¬ fpD P g) :
    w'.ownsRow base e size v n xs ∧ ∀ g, v.ownBlock = some g → ¬ fpD P1 g :=
  ⟨ownsRow_mod2 h ht.m hn, fun g hg hf => (ht.f _ hf).elim (hn g hg) (fun x => by
    obtain ⟨cur, hcur⟩ := own_block h hg
    exact Nat.lt_irrefl _ (Nat.lt_of_lt_of_le (lt_of_block hcur) x))⟩
/-- What was sent, apart of a daemon that goes on. -/
theorem DTo.sends {w w' : World} {P P1 : DPl} (ht : DTo P P1 w w') {base : Nat} {v : Value} {L : List (Int × List Nat)} (h : SendsAt w base v L) (hn : ∀ k, fpD P k → k < base) : SendsAt w' base v L :=
  h.mod ht.m (fun k hk hf => Nat.lt_irrefl _ (Nat.lt_of_lt_of_le (hn k hf) hk))
/-- Do, at an event. -/
theorem do_z {P : DPl} {d : DaemonS} (hok : d.Ok) {N : Int} (hc : d.Cnt N) (hN : N ≤ 9007199254740992) {z : EvS} (i1 : I64 z.kind) (i2 : I64 z.h) (i4 : z.draw < 18446744073709551616) (dp : Option Addr) (dc : Nat) {w : World} (hd : DO w P d)
    (hda : DataAt w (.slice dp z.data.length dc) z.data) (hap : ∀ bd off, dp = some ⟨bd, off, none⟩ → 0 < z.data.length → ¬ fpD P bd) :
    Calls Tryz.prog 15 #[at0 P.b, evV z.kind z.h z.addr z.draw (.slice dp z.data.length dc)] w (DoPost P (doS d z).1 (doS d z).2 (errS d z) w) :=
  do_any P d hok hc hN z.kind z.h z.addr i1 i2 z.draw i4 dp z.data.length dc z.data w hd hda (fun bd off a b e => hap bd off a b (e ▸ fpD.b))
/-- No more votes than servers. -/
theorem do_votes {d : DaemonS} (hd : d.Ok) (hv : d.votes.length ≤ 16) (e : EvS) : (doS d e).1.votes.length ≤ 16 := by
  have h16 := (fine_srv (check_fine hd.c)).2.1
  have hs := hd.sn
  unfold doS
  split
  · exact hv
  · split
    · exact hv
    · unfold datagramS
      simp only []
      unfold hearS
      split
      · exact hv
      split
      · exact hv
      simp only []
      split
      · exact hv
      · unfold takeS
        split
        · refine Nat.le_trans (votes_len _ _ _ _) ?_
          simp only [List.length_set]
          omega
        · exact hv
theorem row_at5 {w : World} {base size n : Nat} {e : TypeId} {v : Value} {xs : List Value} (h : w.ownsRow base e size v n xs) (h0 : 0 < n) :
    ∃ g c, v = .slice (some ⟨g, 0, none⟩) n c ∧ base ≤ g ∧ ∀ i u, xs[i]? = some u → w.cell? ⟨g, i, none⟩ = some u := by
  rcases h.2 with ⟨_, h1⟩ | ⟨g, cap, cur, hv, hb, hg, h3, h4, h5, htk⟩
  · omega
  · refine ⟨g, cap, hv, hb, fun i u hu => cell_of_block hg i ?_⟩
    have hi : i < n * size := by rw [← h.1]; exact (List.getElem?_eq_some_iff.1 hu).1
    rw [← htk, List.getElem?_take_of_lt hi, Array.getElem?_toList] at hu
    exact hu
theorem infoEv : (Tryz.prog.info? 33).map (fun i => (i.zero, i.size, i.bytes)) = some (some (.agg #[.int .i64 0, .int .i64 0, .int .i64 0, .int .u64 0, .slice none 0 0]), 5, 56) := by kernel_rfl
theorem cells5_new (w : World) (x y z u r : Value) (t : TypeId) : ∀ j v, [x, y, z, u, r][j]? = some v → (w.alloc (.cells #[x, y, z, u, r] t)).cell? ((⟨w.heap.size, 0, none⟩ : Addr).add j) = some v := by
  intro j v hj
  have hn := heap_alloc_new w (.cells #[x, y, z, u, r] t)
  rw [show ((⟨w.heap.size, 0, none⟩ : Addr).add j) = ⟨w.heap.size, j, none⟩ by simp [Addr.add]; omega]
  exact cell_of_block hn j (by simpa using hj)
end Go.Proofs.YtkajhggdgpbfeaaGreatDoor

namespace Go.Proofs.YtkajhggdgpbfeaaGreatDoor
set_option linter.unusedSimpArgs false
open Go.RowKit

theorem not_fp {w : World} {P : DPl} {d : DaemonS} (h : DO w P d) {k : Nat} {o : Obj} (ho : w.heap[k]? = some o) (ht : tyOf o ∉ TD) (hb : P.b ≤ k) : ¬ fpD P k := by
  intro hf
  rcases fpD_type h hf with h1 | h1
  · exact ht (h1 o ho)
  · have := h.los.1
    omega
/-- append onto a slice of one's own, in a region that keeps the text's order; where its row lies then. -/
theorem wpList_append_at {P : Program} {ops : Array Oper} {rest : List Oper} {o : Oper} {a : Act} {w : World} {Q : Exit → Act → World → Prop}
    (hg : o.guard = none) (s x : Operand) (t : TypeId) (ho : o.op = .call { callee := .builtin .append, args := #[s, x], argTypes := #[t, t] })
    (base : Nat) (e : TypeId) (i : TypeInfo) (z : Value) (size bytes : Nat) (ht : P.underlying t = some (.slice e)) (hi : P.info? e = some i) (hz : i.zero = some z)
    (hsize : i.size = size) (hby : i.bytes = bytes) (hzs : z.cells.size = size) (hsz : 0 < size)
    (v : Value) (n : Nat) (xs : List Value) (hs : a.eval s = v) (hown : w.ownsRow base e size v n xs)
    (ad : Addr) (m c : Nat) (news : List Value) (hx : a.eval x = .slice (some ad) m c) (hl : news.length = m * size) (hnews : ∀ j u, news[j]? = some u → w.cell? (ad.add j) = some u) (h1 : ∀ u ∈ news, u.oneCell' = true)
    (h63 : n + m ≤ maxLen) (hbytes : (n + m) * bytes ≤ 140737488355328) (hbase : base ≤ w.heap.size)
    (h : ∀ v' w', w'.ownsRow base e size v' (n + m) (xs ++ news) → w.grownBy w' v.ownBlock → (v'.ownBlock = v.ownBlock ∨ v'.ownBlock = some w.heap.size) → wpList P ops Q rest (a.put o.dst v') w') : wpList P ops Q (o :: rest) a w := by
  refine wpList_plain hg fun K hK => ?_
  obtain ⟨v', w', hr, h2, h3, h4, h5⟩ := run_append_own_at (P := P) w base t o.type e i z size bytes ht hi hz hsize hby hzs hsz v n xs hown ad m c news hl hnews h1 h63 hbytes hbase
  unfold Oper.wp execOp
  simp only [ho, resolve, invoke, builtin, Sem.run_bind, Sem.run_pure, Result.andThen_ok, List.map_toArray, List.map_cons, List.map_nil, hs, hx, hr]
  exact hK _ _ (h v' w' h2 h3 h5)
theorem do_c (d : DaemonS) (e : EvS) : (doS d e).1.c = d.c := by
  unfold doS
  split
  · rfl
  · split
    · rfl
    · exact (hear_rest _ _ _ _).2.1
theorem do_draw (d : DaemonS) (e : EvS) : (doS d e).1.draw = if errS d e = 0 ∧ e.kind = 0 ∧ e.draw ≠ 0 then e.draw else d.draw := by
  unfold doS
  by_cases h : errS d e = 0
  · rw [if_neg (by simp [h])]
    by_cases hk : e.kind = 0
    · rw [if_pos hk]
      show (if e.draw = 0 then d.draw else e.draw) = _
      by_cases hd : e.draw = 0
      · rw [if_pos hd, if_neg (by simp [hd])]
      · rw [if_neg hd, if_pos ⟨h, hk, hd⟩]
    · rw [if_neg hk, if_neg (by simp [hk])]
      exact (hear_rest _ _ _ _).2.2.2
  · rw [if_pos h, if_neg (by simp [h])]
theorem out_no {d : DaemonS} {e : EvS} (h : errS d e ≠ 0) : (doS d e).2 = out0 := by rw [doS_err h]
abbrev tU8 : Option TypeId := some 5
abbrev tSend : Option TypeId := some 43
/-- A row of n sends, whose bytes may have turned. -/
def SendsW (w : World) (base : Nat) (v : Value) (n : Nat) : Prop := ∀ i, i < n → ∃ g c a u m q cur ob, v = .slice (some ⟨g, 0, none⟩) n c ∧ base ≤ g ∧ w.heap[g]? = some ob ∧ tyOf ob = tSend ∧ w.cell? ⟨g, i * 2, none⟩ = some (.int .i64 a) ∧
  w.cell? ⟨g, i * 2 + 1, none⟩ = some (.slice (some ⟨u, 0, none⟩) m q) ∧ base ≤ u ∧ w.heap[u]? = some (.cells cur 5 (0, 0)) ∧ m ≤ cur.size ∧ m ≤ 1000
theorem SendsW.of {w : World} {base : Nat} {v : Value} {L : List (Int × List Nat)} (h : SendsAt w base v L) (hL : SendsOk L) : SendsW w base v L.length := by
  intro i hi
  have hx : L[i]? = some L[i] := List.getElem?_eq_getElem hi
  obtain ⟨g, c, u, h1, h2, h3, h4, h5⟩ := sends_at h hx
  obtain ⟨b1, b2, b3⟩ := hL L[i] (List.getElem_mem hi)
  have hob : ∃ ob, w.heap[g]? = some ob ∧ tyOf ob = tSend := by
    obtain ⟨vs, hl, hr, hd⟩ := h
    rcases hr.2 with ⟨_, h0⟩ | ⟨g', cap, cur, hv, _, hg, _⟩
    · omega
    · rw [h1] at hv
      cases hv
      exact ⟨_, hg, rfl⟩
  obtain ⟨ob, ho1, ho2⟩ := hob
  rcases h5.2 with ⟨_, h0⟩ | ⟨k, cap, cur, hv, hb, hg, hc1, hc2, hc3, _⟩
  · omega
  · subst hv
    exact ⟨g, c, L[i].1, k, L[i].2.length, cap, cur, ob, h1, h2, ho1, ho2, h3, h4, hb, hg, by omega, b3⟩
theorem SendsW.quiet {w w' : World} {base : Nat} {v : Value} {n : Nat} (h : SendsW w base v n) (hm : Mod NoB w w') : SendsW w' base v n := by
  intro i hi
  obtain ⟨g, c, a, u, m, q, cur, ob, h1, h2, h3, h4, h5, h6, h7, h8, h9, h10⟩ := h i hi
  exact ⟨g, c, a, u, m, q, cur, ob, h1, h2, hm.heap h3 id, h4, hm.cellAt id h5, hm.cellAt id h6, h7, hm.heap h8 id, h9, h10⟩
/-- A byte that is turned. -/
theorem SendsW.put {w : World} {base : Nat} {v : Value} {n : Nat} (h : SendsW w base v n) {u : Nat} {cur : Array Value} (hu : w.heap[u]? = some (.cells cur 5 (0, 0))) (j : Nat) (x : Value) : SendsW (w.setCell ⟨u, j, none⟩ x) base v n := by
  have hm : Mod (· = u) w (w.setCell ⟨u, j, none⟩ x) := (Mod.refl _ _).set1 _ _
  intro i hi
  obtain ⟨g, c, a, u', m, q, cur', ob, h1, h2, h3, h4, h5, h6, h7, h8, h9, h10⟩ := h i hi
  have hg : g ≠ u := fun e => by
    subst e
    rw [h3] at hu
    cases hu
    exact absurd (show tU8 = tSend from h4) (by decide)
  by_cases e : u' = u
  · subst e
    rw [h8] at hu
    cases hu
    exact ⟨g, c, a, u', m, q, _, ob, h1, h2, hm.heap h3 hg, h4, hm.cellAt hg h5, hm.cellAt hg h6, h7, heap_setCell_eq h8 x, by simpa using h9, h10⟩
  · exact ⟨g, c, a, u', m, q, cur', ob, h1, h2, hm.heap h3 hg, h4, hm.cellAt hg h5, hm.cellAt hg h6, h7, hm.heap h8 e, h9, h10⟩
/-- What is no daemon's turns no daemon. -/
theorem Two.put {w0 w w' : World} {P P' : DPl} {d m : DaemonS} (h : Two w0 P P' d m w) {S : Nat → Prop} (hm : Mod S w w') (h1 : ∀ k, S k → ¬ fpD P k) (h2 : ∀ k, S k → ¬ fpD P' k) (h0 : ∀ k, S k → w0.heap.size ≤ k) : Two w0 P P' d m w' :=
  ⟨h.d.apart hm h1, h.m.apart hm h2, h.apart, h.loL, h.loR, h.old.into hm (fun k hk => Or.inr (h0 k hk))⟩
theorem One.put {w0 w w' : World} {P : DPl} {d : DaemonS} (h : One w0 P d w) {S : Nat → Prop} (hm : Mod S w w') (h1 : ∀ k, S k → ¬ fpD P k) (h0 : ∀ k, S k → w0.heap.size ≤ k) : One w0 P d w' :=
  ⟨h.d.apart hm h1, h.lo, h.old.into hm (fun k hk => Or.inr (h0 k hk))⟩
/-- Two daemons, and a row of sends whose bytes may turn. -/
theorem Two.byte {w0 w : World} {P P' : DPl} {d m : DaemonS} (h : Two w0 P P' d m w) {u : Nat} {cur : Array Value} (hu : w.heap[u]? = some (.cells cur 5 (0, 0))) (hb : P.b ≤ u) (hb' : P'.b ≤ u) (j : Nat) (x : Value) : Two w0 P P' d m (w.setCell ⟨u, j, none⟩ x) := by
  refine h.put (S := fun k => k = u) ((Mod.refl _ _).set1 _ _) (fun k e => ?_) (fun k e => ?_) (fun k e => ?_)
  · subst e
    exact not_fp h.d hu (show tU8 ∉ TD by decide) hb
  · subst e
    exact not_fp h.m hu (show tU8 ∉ TD by decide) hb'
  · subst e
    exact Nat.le_trans h.left.b hb
/-- A row that is no daemon's. -/
def FreeRow (w : World) (T : TypeId) (size : Nat) (pv : Option Addr) (n : Nat) (Q Q' : DPl) (lo : Nat) : Prop :=
  0 < n → ∃ g cur, pv = some ⟨g, 0, none⟩ ∧ w.heap[g]? = some (.cells cur T (0, 0)) ∧ n * size ≤ cur.size ∧ ¬ fpD Q g ∧ ¬ fpD Q' g ∧ lo ≤ g
theorem FreeRow.of {w0 w w' : World} {Q Q' : DPl} {d m : DaemonS} (h : Two w0 Q Q' d m w) {T : TypeId} {size n c : Nat} {pv : Option Addr} {xs : List Value} (hr : w'.ownsRow w.heap.size T size (.slice pv n c) n xs) : FreeRow w' T size pv n Q Q' w0.heap.size := by
  intro h0
  rcases hr.2 with ⟨_, h1⟩ | ⟨g, cap, cur, hv, hb, hg, h3, h4, h5, htk⟩
  · omega
  · obtain ⟨rfl, _, rfl⟩ := Value.slice.inj hv
    refine ⟨g, cur, rfl, hg, ?_, fun x => ?_, fun x => ?_, Nat.le_trans h.old.size hb⟩
    · rw [h5]
      exact Nat.mul_le_mul_right _ h3
    · have := h.d.lt _ x
      omega
    · have := h.m.lt _ x
      omega
theorem FreeRow.quiet {w w' : World} {T : TypeId} {size n : Nat} {pv : Option Addr} {Q Q' : DPl} {lo : Nat} (h : FreeRow w T size pv n Q Q' lo) (hm : Mod NoB w w') : FreeRow w' T size pv n Q Q' lo := fun h0 =>
  let ⟨g, cur, h1, h2, h3⟩ := h h0
  ⟨g, cur, h1, hm.heap h2 id, h3⟩
/-- A cell of such a row is turned. -/
theorem FreeRow.put {w : World} {T : TypeId} {size n : Nat} {g : Nat} {Q Q' : DPl} {lo : Nat} (h : FreeRow w T size (some ⟨g, 0, none⟩) n Q Q' lo) (j : Nat) (x : Value) : FreeRow (w.setCell ⟨g, j, none⟩ x) T size (some ⟨g, 0, none⟩) n Q Q' lo := fun h0 =>
  let ⟨g', cur, h1, h2, h3, h4⟩ := h h0
  by
    cases h1
    exact ⟨g, _, rfl, heap_setCell_eq h2 x, by simpa using h3, h4⟩
theorem Two.free {w0 w : World} {P P' : DPl} {d m : DaemonS} (h : Two w0 P P' d m w) {g : Nat} (h1 : ¬ fpD P g) (h2 : ¬ fpD P' g) (h3 : w0.heap.size ≤ g) (j : Nat) (x : Value) : Two w0 P P' d m (w.setCell ⟨g, j, none⟩ x) :=
  h.put (S := fun k => k = g) ((Mod.refl _ _).set1 _ _) (fun k e => by subst e; exact h1) (fun k e => by subst e; exact h2) (fun k e => by subst e; exact h3)
end Go.Proofs.YtkajhggdgpbfeaaGreatDoor

namespace Go.Proofs.YtkajhggdgpbfeaaGreatDoor
open Go.RowKit

def seenV (s : Nat → Bool) : Array Value := #[.bool (s 0), .bool (s 1), .bool (s 2), .bool (s 3), .bool (s 4)]
/-- What the document's line works on. -/
structure RS (base bc bn : Nat) (st : St) (w : World) : Prop where
  cfg : CfgAt base bc st.1 w
  seen : w.heap[bn]? = some (.cells (seenV st.2) 162 (0, 0))
  low : bc < base ∧ bn < base
  size : base ≤ w.heap.size
theorem RS.ne {base bc bn : Nat} {st : St} {w : World} (h : RS base bc bn st w) : bc ≠ bn := by
  obtain ⟨v, h1, _⟩ := h.cfg
  rintro rfl
  have := h.seen
  rw [h1] at this
  simp [seenV] at this
theorem RS.keep {base bc bn : Nat} {st : St} {w w' : World} (h : RS base bc bn st w) (hm : Mod NoB w w') : RS base bc bn st w' :=
  ⟨let ⟨v, h1, h2⟩ := h.cfg; ⟨v, hm.heap h1 id, ownsRow_mod h2 hm (fun _ f => f.elim)⟩, hm.heap h.seen id, h.low, Nat.le_trans h.size hm.size⟩

end Go.Proofs.YtkajhggdgpbfeaaGreatDoor

namespace Go.Proofs.YtkajhggdgpbfeaaGreatDoor
open Go.RowKit Go.Deep Go.ChangeShapes Go.WideShapes Go.ChangeAt

section
variable {H : Type} {enc : TypeId × Value → H} {P : Program} {W : World}

theorem okWide_array {t e : TypeId} {n base : Nat} {r : Reach} {v : Value} (ht : P.underlying t = some (.array n e)) (h : Value.okWide P W r base t v) : ∃ cs, v = .agg cs ∧ cs.size = P.cellsOf t := by
  simp only [Value.okWide, ht] at h
  obtain ⟨cs, h1, h2, _⟩ := h
  exact ⟨cs, h1, h2⟩

/-- An array of n integers of one kind, by value. -/
theorem open_intArr {t e : TypeId} {n base : Nat} {r : Reach} {k : IntKind} {v : Value} {d : DataW H} {p : List MemPlace}
    (ht : P.underlying t = some (.array n e)) (he : P.underlying e = some (.int k)) (hc : P.cellsOf e = 1) (hct : P.cellsOf t = n)
    (hv : Value.okWide P W r base t v) (h : DataW.Trod enc P W 0 (fun _ => true) true t v d p) :
    ∃ xs : List Int, xs.length = n ∧ v = .agg (xs.map (Value.int k)).toArray ∧ ∀ i, i < n → (Lit.int k (xs.getD i 0)).wf = true := by
  obtain ⟨cs, rfl, hsz⟩ := okWide_array ht hv
  obtain ⟨fuel, hf⟩ := h
  obtain ⟨ys, m, _, hx, hl, hyl, hel⟩ := DataW.trod_array ht hf
  rw [hct] at hsz
  have hone : ∀ i, i < n → ∃ z : Int, cs.toList[i]? = some (.int k z) ∧ (Lit.int k z).wf = true := by
    intro i hi
    have h1 := hel i hi
    rw [hc, Nat.mul_one, List.getElem?_eq_getElem (by omega)] at h1
    obtain ⟨z, hz, _, hw⟩ := DataW.trod_int he h1
    refine ⟨z, ?_, hw⟩
    have h2 : (List.drop i (Value.cells (.agg cs)).toList)[0]? = some (.int k z) := by
      have : (List.take 1 (List.drop i (Value.cells (.agg cs)).toList))[0]? = some (.int k z) := by rw [hz]; rfl
      simpa using this
    simpa [Value.cells] using h2
  obtain ⟨Z, hZ⟩ := choose_lt (α := Int) hone
  refine ⟨(List.range n).map Z, by simp, ?_, ?_⟩
  · congr 1
    apply Array.ext'
    apply List.ext_getElem?
    intro i
    by_cases hi : i < n
    · rw [(hZ i hi).1]
      simp [hi]
    · rw [List.getElem?_eq_none (by simp [hsz]; omega)]
      simp [hi]
  · intro i hi
    simpa [hi, List.getD] using (hZ i hi).2
end

end Go.Proofs.YtkajhggdgpbfeaaGreatDoor

namespace Go.Proofs.YtkajhggdgpbfeaaGreatDoor
open Go.RowKit Go.MapKept

variable {P : Program} {t kt et : TypeId}
/-- A map tells of each int what f tells. -/
def MapF (w : World) (r : Nat) (f : Int → Option Value) : Prop :=
  ∃ es c, w.heap[r]? = some (.map es c) ∧ Stamped es c ∧ (∀ x ∈ es.toList, IsKey (.int .i64) x.key) ∧ ∀ k v, f k = some v ↔ ∃ x ∈ es.toList, x.key = .int .i64 k ∧ x.val = v
theorem MapF.new {w : World} {r : Nat} (h : w.heap[r]? = some (.map #[] 0)) : MapF w r (fun _ => none) :=
  ⟨_, _, h, stamped_empty 0, fun x hx => by simp at hx, fun k v => by simp⟩
theorem MapF.heap {w w' : World} {r : Nat} {f : Int → Option Value} (h : MapF w r f) (hh : ∀ o, w.heap[r]? = some o → w'.heap[r]? = some o) : MapF w' r f :=
  let ⟨es, c, h1, h2⟩ := h
  ⟨es, c, hh _ h1, h2⟩
theorem MapF.quiet {w w' : World} {r : Nat} {f : Int → Option Value} (h : MapF w r f) (hm : Mod NoB w w') : MapF w' r f := h.heap (fun _ ho => hm.heap ho id)
theorem MapF.mod {S : Nat → Prop} {w w' : World} {r : Nat} {f : Int → Option Value} (h : MapF w r f) (hm : Mod S w w') (hr : ¬ S r) : MapF w' r f := h.heap (fun _ ho => hm.heap ho hr)
theorem MapF.lt {w : World} {r : Nat} {f : Int → Option Value} (h : MapF w r f) : r < w.heap.size := by
  obtain ⟨es, c, h1, _⟩ := h
  rcases Nat.lt_or_ge r w.heap.size with h | h
  · exact h
  · rw [Array.getElem?_eq_none h] at h1; cases h1
theorem MapF.find {w : World} {r : Nat} {f : Int → Option Value} (h : MapF w r f) (k : Int) :
    ∃ es c, w.heap[r]? = some (.map es c) ∧ ((f k = none ∧ Instr.findNow (.int .i64) (.int .i64 k) es.toList 0 = some none) ∨ ∃ v j, f k = some v ∧ Instr.findNow (.int .i64) (.int .i64 k) es.toList 0 = some (some (j, v))) := by
  obtain ⟨es, c, h1, h2, h3, h4⟩ := h
  refine ⟨es, c, h1, ?_⟩
  rcases findNow_spec (d := .int .i64) (k := .int .i64 k) rfl es.toList 0 h3 with ⟨a, b⟩ | ⟨j, e, a, b, d⟩
  · refine Or.inl ⟨?_, a⟩
    cases hf : f k with
    | none => rfl
    | some v =>
      obtain ⟨x, hx, hk, _⟩ := (h4 k v).1 hf
      exact absurd hk (b x hx)
  · exact Or.inr ⟨e.val, _, (h4 k e.val).2 ⟨e, List.mem_of_getElem? b, d, rfl⟩, a⟩
theorem MapF.look {w : World} {r : Nat} {f : Int → Option Value} (h : MapF w r f) (ht : P.underlying t = some (.map kt et)) (hkt : P.underlying kt = some (.int .i64)) {z : Value} (hz : ∀ w, (zeroValue et).run P w = .ok z w) (k : Int) :
    (Instr.lookup t (.map (some r)) (.int .i64 k) true).run P w = .ok (.tuple #[(f k).getD z, .bool (f k).isSome]) w := by
  obtain ⟨es, c, hb, hc⟩ := h.find k
  have hk : IsKey (.int .i64) (.int .i64 k) := rfl
  have hck : ∀ e, (Instr.checkKey e 10000 kt (.int .i64 k)).run P w = .ok () w := fun e => Go.MapKept.run_checkKey hkt hk e 9999
  rcases hc with ⟨h1, hf⟩ | ⟨v, j, h1, hf⟩
  · unfold Instr.lookup
    simp [run_underlying ht, Go.MapKept.run_getObj_map hb, hck, run_findKey hkt hf, go_sem, hz, h1]
  · unfold Instr.lookup
    simp [run_underlying ht, Go.MapKept.run_getObj_map hb, hck, run_findKey hkt hf, go_sem, h1]
theorem MapF.look1 {w : World} {r : Nat} {f : Int → Option Value} (h : MapF w r f) (ht : P.underlying t = some (.map kt et)) (hkt : P.underlying kt = some (.int .i64)) {z : Value} (hz : ∀ w, (zeroValue et).run P w = .ok z w) (k : Int) :
    (Instr.lookup t (.map (some r)) (.int .i64 k) false).run P w = .ok ((f k).getD z) w := by
  obtain ⟨es, c, hb, hc⟩ := h.find k
  have hk : IsKey (.int .i64) (.int .i64 k) := rfl
  have hck : ∀ e, (Instr.checkKey e 10000 kt (.int .i64 k)).run P w = .ok () w := fun e => Go.MapKept.run_checkKey hkt hk e 9999
  rcases hc with ⟨h1, hf⟩ | ⟨v, j, h1, hf⟩
  · unfold Instr.lookup
    simp [run_underlying ht, Go.MapKept.run_getObj_map hb, hck, run_findKey hkt hf, go_sem, hz, h1]
  · unfold Instr.lookup
    simp [run_underlying ht, Go.MapKept.run_getObj_map hb, hck, run_findKey hkt hf, go_sem, h1]
/-- f, with one value put. -/
def putM (f : Int → Option Value) (k : Int) (v : Value) : Int → Option Value := fun a => if a = k then some v else f a
theorem MapF.put {w : World} {r : Nat} {f : Int → Option Value} (h : MapF w r f) (ht : P.underlying t = some (.map kt et)) (hkt : P.underlying kt = some (.int .i64)) (k : Int) (v : Value) :
    ∃ o, (Instr.mapUpdate t (.map (some r)) (.int .i64 k) v).run P w = .ok () (setO w r o) ∧ MapF (setO w r o) r (putM f k v) := by
  have hlt := h.lt
  obtain ⟨es, c, hb, hs, hkeys, hf⟩ := h
  have hk : IsKey (.int .i64) (.int .i64 k) := rfl
  have hck : ∀ e, (Instr.checkKey e 10000 kt (.int .i64 k)).run P w = .ok () w := fun e => Go.MapKept.run_checkKey hkt hk e 9999
  rcases findNow_spec hk es.toList 0 hkeys with ⟨h1, h2⟩ | ⟨j, e, h1, h2, h3⟩
  · refine ⟨.map (es.push { key := .int .i64 k, val := v, born := c }) (c + 1), run_insI ht hkt k v hb hkeys h2, _, _, setO_same _ hlt, stamped_push hs h2, fun x hx => ?_, fun a u => ?_⟩
    · simp only [Array.toList_push, List.mem_append, List.mem_singleton] at hx
      rcases hx with hx | rfl
      · exact hkeys x hx
      · exact hk
    · simp only [Array.toList_push, List.mem_append, List.mem_singleton, putM]
      by_cases ha : a = k
      · subst ha
        rw [if_pos rfl]
        constructor
        · intro hu
          cases hu
          exact ⟨_, Or.inr rfl, rfl, rfl⟩
        · rintro ⟨x, hx | rfl, hxk, hxv⟩
          · exact absurd hxk (h2 x hx)
          · rw [← hxv]
      · rw [if_neg ha, hf]
        constructor
        · rintro ⟨x, hx, hxk⟩
          exact ⟨x, Or.inl hx, hxk⟩
        · rintro ⟨x, hx | rfl, hxk, hxv⟩
          · exact ⟨x, hx, hxk, hxv⟩
          · exact absurd (Value.int.inj hxk).2.symm ha
  · have hj : es[j]? = some e := by simpa using h2
    obtain ⟨g, hg⟩ : ∃ g : MapEntry → MapEntry, (fun e : MapEntry => ({ key := .int .i64 k, val := v, born := e.born } : MapEntry)) = g := ⟨_, rfl⟩
    have hrun : (Instr.mapUpdate t (.map (some r)) (.int .i64 k) v).run P w = .ok () (setO w r (.map (es.modify j g) c)) := by
      have hge : (Option.map (fun x => x.key) es[j]?).getD (.int .i64 k) = .int .i64 k := by rw [hj]; exact h3
      have hsb : Instr.sameBits 10000 (.int .i64 k) (.int .i64 k) = true := by simp [Instr.sameBits]
      unfold Instr.mapUpdate
      simp [run_underlying ht, Go.MapKept.run_getObj_map hb, Go.MapKept.run_setObj_map _ hb, hck, run_findKey hkt h1, go_sem, hj, h3, Instr.keyThatStays, hsb, ← hg]
      rfl
    have hat : ∀ i x, (es.modify j g).toList[i]? = some x ↔ if i = j then x = g e else es.toList[i]? = some x := by
      intro i x
      rw [Array.getElem?_toList, Array.getElem?_modify]
      by_cases hi : j = i
      · subst hi
        rw [if_pos rfl, if_pos rfl, hj]
        simp [eq_comm]
      · rw [if_neg hi, if_neg (fun x => hi x.symm), Array.getElem?_toList]
    have hkey : ∀ e', es[j]? = some e' → (g e').key = e'.key := fun e' he' => by rw [hj] at he'; cases he'; rw [← hg]; exact h3.symm
    have hgk : (g e).key = .int .i64 k ∧ (g e).val = v := by rw [← hg]; exact ⟨rfl, rfl⟩
    refine ⟨_, hrun, _, _, setO_same _ hlt, stamped_modify hs _ _ (fun _ _ => by rw [← hg]) (fun e' _ he' => hkey e' he'), isKey_modify hkeys _ _ hkey, fun a u => ?_⟩
    have huniq : ∀ i x, es.toList[i]? = some x → x.key = .int .i64 k → i = j := by
      intro i x hx hxk
      have hn := hs.2.2
      obtain ⟨hi, ei⟩ := List.getElem?_eq_some_iff.1 hx
      obtain ⟨hjl, ej⟩ := List.getElem?_eq_some_iff.1 h2
      rcases Nat.lt_trichotomy i j with h | h | h
      · have := List.pairwise_iff_getElem.1 hn i j (by simpa using hi) (by simpa using hjl) h
        simp only [List.getElem_map, ei, ej, hxk, h3] at this
        exact absurd rfl this
      · exact h
      · have := List.pairwise_iff_getElem.1 hn j i (by simpa using hjl) (by simpa using hi) h
        simp only [List.getElem_map, ei, ej, hxk, h3] at this
        exact absurd rfl this
    unfold putM
    by_cases ha : a = k
    · subst ha
      rw [if_pos rfl]
      constructor
      · intro hu
        cases hu
        exact ⟨g e, List.mem_of_getElem? ((hat j (g e)).2 (by rw [if_pos rfl])), hgk.1, hgk.2⟩
      · rintro ⟨x, hx, hxk, hxv⟩
        obtain ⟨i, hi⟩ := List.mem_iff_getElem?.1 hx
        have := (hat i x).1 hi
        by_cases hij : i = j
        · rw [if_pos hij] at this
          rw [this, hgk.2] at hxv
          rw [hxv]
        · rw [if_neg hij] at this
          exact absurd (huniq i x this hxk) hij
    · rw [if_neg ha, hf]
      constructor
      · rintro ⟨x, hx, hxk, hxv⟩
        obtain ⟨i, hi⟩ := List.mem_iff_getElem?.1 hx
        have hij : i ≠ j := by
          intro hij
          subst hij
          rw [h2] at hi
          cases hi
          rw [h3] at hxk
          exact ha (Value.int.inj hxk).2.symm
        exact ⟨x, List.mem_of_getElem? ((hat i x).2 (by rw [if_neg hij]; exact hi)), hxk, hxv⟩
      · rintro ⟨x, hx, hxk, hxv⟩
        obtain ⟨i, hi⟩ := List.mem_iff_getElem?.1 hx
        have := (hat i x).1 hi
        by_cases hij : i = j
        · rw [if_pos hij] at this
          rw [this, hgk.1] at hxk
          exact absurd (Value.int.inj hxk).2.symm ha
        · rw [if_neg hij] at this
          exact ⟨x, List.mem_of_getElem? this, hxk, hxv⟩
end Go.Proofs.YtkajhggdgpbfeaaGreatDoor

