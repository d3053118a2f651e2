/- Package count: the counts' text. A daemon's counts as a text; what a row lays. What is sent, in bounds; an event behind an act, in bounds: plain. Contracts of Do and Same, put together. What was sent, and may be turned; blocks that are no daemon's by their type. -/
import Derived.Test.YtjlilmonpklghaaGreatDoorPUbh
import Derived.Test.YtjlilmonpklghaaGreatDoorPUad
import Derived.Lib.ItoaLen
import Derived.Test.YtjlilmonpklghaaGreatDoorPUao
namespace Go.Proofs.YtjlilmonpklghaaGreatDoor
open Go.RowKit

/-- What Text lists of the first k reasons. -/
def co_ents (c : List Int) (k : Nat) : List (List UInt8) :=
  (List.range k).flatMap fun i => if 0 < c.getD i 0 then [nameL.getD i [] ++ [32] ++ Lib.itoa (c.getD i 0)] else []

theorem co_ents_succ (c : List Int) (k : Nat) : co_ents c (k + 1) = co_ents c k ++ if 0 < c.getD k 0 then [nameL.getD k [] ++ [32] ++ Lib.itoa (c.getD k 0)] else [] := by
  simp [co_ents, List.range_succ]
theorem co_ents_len (c : List Int) (k : Nat) : (co_ents c k).length ≤ k := by
  induction k with
  | zero => simp [co_ents]
  | succ k ih => rw [co_ents_succ]; split <;> simp <;> omega

theorem nameL_len (k : Nat) : (nameL.getD k []).length ≤ 8 := by
  by_cases hk : k < 13
  · match k, hk with
    | 0, _ | 1, _ | 2, _ | 3, _ | 4, _ | 5, _ | 6, _ | 7, _ | 8, _ | 9, _ | 10, _ | 11, _ | 12, _ => decide
  · have : nameL.length = 13 := rfl
    simp [List.getD, List.getElem?_eq_none (show nameL.length ≤ k by omega)]

theorem co_ents_each (c : List Int) (hc : ∀ k, 0 ≤ c.getD k 0 ∧ c.getD k 0 ≤ 9007199254740992) (k : Nat) : ∀ s ∈ co_ents c k, s.length ≤ 30 := by
  intro s hs
  simp only [co_ents, List.mem_flatMap, List.mem_range] at hs
  obtain ⟨i, _, hs⟩ := hs
  split at hs
  · simp only [List.mem_singleton] at hs
    subst hs
    have h1 := nameL_len i
    have h2 := Lib.itoa_length_le (c.getD i 0) (by have := hc i; omega) (by have := hc i; omega)
    simp only [List.length_append, List.length_cons, List.length_nil]
    omega
  · cases hs

theorem co_lens_le (xs : List (List UInt8)) (n : Nat) (h : ∀ s ∈ xs, s.length ≤ n) : Lib.lens xs ≤ xs.length * n := by
  induction xs with
  | nil => simp [Lib.lens]
  | cons x xs ih =>
    have h1 := h x (by simp)
    have h2 := ih fun s hs => h s (by simp [hs])
    simp only [Lib.lens, List.map_cons, List.sum_cons, List.length_cons, Nat.succ_mul] at *
    omega

theorem co_join_le (xs : List (List UInt8)) (sep : List UInt8) (n : Nat) (h : ∀ s ∈ xs, s.length ≤ n) : (Lib.join xs sep).length ≤ xs.length * (n + sep.length) := by
  cases xs with
  | nil => simp [Lib.join_nil]
  | cons x r =>
    rw [Lib.join_length]
    have := co_lens_le (x :: r) n h
    simp only [List.length_cons, Nat.mul_add, Nat.succ_mul, Nat.mul_comm sep.length] at *
    omega

/-- strings.Join of a slice of the call's own. -/
theorem co_join_own (w : World) (base : Nat) (v : Value) (xs : List (List UInt8)) (sep : List UInt8) (h : w.ownsRow base 9 1 v xs.length (xs.map fun s => .string (bs s)))
    (hlen : (Lib.join xs sep).length ≤ 140737488355328) (hN : xs.length ≤ 140737488355328) :
    Calls Tryz.prog 144 #[v, .string (bs sep)] w fun e w' => e = .returned (.string (bs (Lib.join xs sep))) ∧ Mod NoB w w' := by
  have hmap : (xs.map bs).map (·.data.toList) = xs := by
    rw [List.map_map]
    exact List.map_id'' (fun _ => rfl) xs
  rcases h.2 with ⟨rfl, h0⟩ | ⟨g, cap, cur, rfl, hb, hg, hcap, hmx, hsz, htk⟩
  · obtain rfl : xs = [] := List.length_eq_zero_iff.1 h0
    refine (Tryz.strings_Join_none none 0 (bs sep) w).mono ?_
    rintro e w' ⟨rfl, rfl⟩
    exact ⟨rfl, Mod.refl _ _⟩
  · have hl : (xs.map bs).length = xs.length := by simp
    have := Tryz.strings_Join g 0 cap (xs.map bs) (bs sep) w (fun j x hx => by
        rw [Nat.zero_add, h.cellAt j (by
          rcases Nat.lt_or_ge j xs.length with hj | hj
          · omega
          · rw [List.getElem?_eq_none (by simpa using hj)] at hx; cases hx)]
        rw [List.getElem?_map] at hx ⊢
        cases hj : xs[j]? with
        | none => simp [hj] at hx
        | some y => simp [hj] at hx; simp [← hx])
      (lt_of_block hg) (by rw [hl]; exact hN) (by rw [hl]; exact hcap) (by rw [hmap]; exact hlen)
    rw [hl, hmap] at this
    refine this.mono ?_
    rintro e w' ⟨rfl, hbl⟩
    exact ⟨rfl, Below.mod hbl⟩

theorem co_infoStr : (Tryz.prog.info? 9).map (fun i => (i.zero, i.size, i.bytes)) = some (some (.string ⟨#[]⟩), 1, 16) := by kernel_rfl

set_option maxHeartbeats 2000000 in
set_option maxRecDepth 100000 in
theorem co_text_of (p : Value) (c : List Int) (hl : c.length = 13) (w : World) (hp : Calls Tryz.prog 141 #[p] w fun e w'' => e = .returned (ints c) ∧ Mod NoB w w'') (hc : ∀ k, 0 ≤ c.getD k 0 ∧ c.getD k 0 ≤ 9007199254740992) (hL : Laid w) :
    Calls Tryz.prog 85 #[p] w fun e w' => e = .returned (.string (bs (Lib.join (co_ents c 13) [44, 32]))) ∧ Mod NoB w w' := by
  obtain ⟨i0, hi, hz0, hz1, hz2⟩ := info_parts co_infoStr
  replace hp := hide hp
  replace hL := hide hL
  replace hi := hide hi
  replace hz0 := hide hz0
  replace hz1 := hide hz1
  replace hz2 := hide hz2
  go_enter Tryz.func85, Tryz.ntmps85
  go_wp2_with fail
  refine hp.out.mono ?_
  rintro e w1 ⟨rfl, hm⟩
  replace hm := hide hm
  go_wp2_with fail
  go_loopw [3, 8] (fun v i wr => ∃ k : Nat, k ≤ 13 ∧ i = .int .i64 k ∧ wr.ownsRow w.heap.size 9 1 v (co_ents c k).length ((co_ents c k).map fun s => .string (bs s)) ∧ Mod NoB w wr) (fun _ i _ => 13 - (intOf i).toNat)
  case atStart => exact ⟨0, by omega, rfl, World.ownsRow_nil _ _ _ _, hm.out⟩
  case round =>
    obtain ⟨k, hk, rfl, hown, hmr⟩ := hrel
    have hLr := hide (hL.out.mod hmr)
    have hsz := hmr.size
    replace hmr := hide hmr
    replace hown := hide hown
    by_cases hlt : k < 13
    · have hix := run_index_ints 234 Tryz.underlying234 c hl k hlt
      obtain ⟨x1, x2⟩ := hc k
      have hnx := hide (co_ents_succ c k)
      have hel := co_ents_len c k
      replace hl := hide hl
      generalize c.getD k 0 = x at hix x1 x2 hnx
      have hil := Lib.itoa_length_le x (by omega) (by omega)
      have hnl := nameL_len k
      have hcell : ∀ w', NamesPost w' = fun e w'' => ∃ r cap, e = .returned (.slice (some ⟨r, 0, none⟩) 13 cap) ∧ (∀ i, i < 13 → w''.cell? ⟨r, i, none⟩ = some (.string (bs (nameL.getD i [])))) ∧ w'.heap.size ≤ r ∧ r < w''.heap.size ∧ Mod NoB w' w'' := fun _ => rfl
      have hnk := hide (rfl : nameL.getD k [] = nameL.getD k [])
      obtain ⟨nm, hnm⟩ : ∃ nm, nameL.getD k [] = nm := ⟨_, rfl⟩
      rw [hnm] at hnx hnl
      replace hnm := hide hnm
      clear hcell hnk
      have q1 : (9223372036854775807 < nm.length + 1) = False := by simp; omega
      have q2 : (9223372036854775807 < nm.length + 1 + (Lib.itoa x).length) = False := by simp; omega
      by_cases h0 : x = 0
      · subst h0
        go_wp2
        go_roundw
        case rel => exact ⟨k + 1, by omega, by go_num, by rw [hnx.out]; simpa using hown.out, hmr.out⟩
        case measure => simp [intOf]; omega
      · have hpos : 0 < x := by omega
        clear h0
        go_wp2_with fail
        go_region_law (first
          | (go_simp; go_at_call 142; refine (co_names_any _ (hLr.out.mod (Mod.refl _ _).drew)).mono ?_; rintro e w5 ⟨r, cap, rfl, hcs, hr1, hr2, hm5⟩; have hcA := hcs k hlt; rw [hnm.out] at hcA; have hcB : ∀ w'', Mod NoB w5 w'' → w''.cell? ⟨r, k, none⟩ = some (.string (bs nm)) := (fun w'' hmm => hmm.cellAt id hcA); replace hcs := hide hcs)
          | (go_simp; go_at_call 143; refine (co_itoa_any x ⟨by omega, by omega⟩ _ (hLr.out.mod ((Mod.refl _ _).drew.trans hm5))).mono ?_; rintro e w6 ⟨rfl, hm6⟩)
          | (refine step_append_own rfl (.tmp 14) (.tmp 23) 179 rfl w.heap.size 9 i0 (.string ⟨#[]⟩) 1 16 Tryz.underlying179 hi.out hz0.out hz1.out hz2.out rfl (by decide) u3 (co_ents c k).length ((co_ents c k).map fun s => .string (bs s)) rfl ?o ⟨_, 0, none⟩ 1 1 [.string (bs nm ++ ⟨#[32]⟩ ++ bs (Lib.itoa x))] rfl rfl ?n ?one ?m ?mb ?base ?_; (case o => exact (ownsRow_mod hown.out (((Mod.refl _ _).drew.trans hm5).trans hm6) (fun _ f => f.elim)).alloc _); (case n => exact cell_one_new _ _ _); (case one => (intro u hu; simp at hu; subst hu; rfl)); (case m => (unfold maxLen; omega)); (case mb => omega); (case base => (have z1 := hm5.size; have z2 := hm6.size; simp at z1 ⊢; omega)); intro v' w7 hown' hgrow _))
        all_goals
          have hown2 : Hid (w7.ownsRow w.heap.size 9 1 v' (co_ents c (k + 1)).length ((co_ents c (k + 1)).map fun s => .string (bs s))) := hide (by
            rw [hnx.out, if_pos hpos, List.length_append, List.map_append]
            have e1 : bs nm ++ ⟨#[32]⟩ ++ bs (Lib.itoa x) = bs (nm ++ [32] ++ Lib.itoa x) := (congrArg (· ++ bs (Lib.itoa x)) (co_bytes_append nm [32])).trans (co_bytes_append (nm ++ [32]) (Lib.itoa x))
            rw [e1] at hown'
            exact hown')
          have hm7 : Hid (Mod NoB w w7) := hide (((((hmr.out.drew.trans hm5).trans hm6).alloc _).grown hgrow (fun q hq => (hown.out.lt q hq).1)))
          clear hown' hgrow hm5 hm6 hcB hcA
          go_wp2
          go_roundw
          case rel => exact ⟨k + 1, by omega, by go_num, hown2.out, hm7.out⟩
          case measure => simp [intOf]; omega
    · obtain rfl : k = 13 := by omega
      have hel := co_ents_len c 13
      have hjl := co_join_le (co_ents c 13) [44, 32] 30 (co_ents_each c hc 13)
      replace hc := hide hc
      replace hjl : (Lib.join (co_ents c 13) [44, 32]).length ≤ 13 * 32 := Nat.le_trans hjl (Nat.mul_le_mul hel (Nat.le_refl 32))
      go_wp2_with fail
      refine (co_join_own _ _ _ (co_ents c 13) [44, 32] hown.out (by omega) (by omega)).mono ?_
      rintro e w8 ⟨rfl, hm8⟩
      replace hm8 := hide hm8
      go_wp2
      go_ret
      exact ⟨rfl, hmr.out.trans hm8.out⟩
end Go.Proofs.YtjlilmonpklghaaGreatDoor

namespace Go.Proofs.YtjlilmonpklghaaGreatDoor
set_option linter.unusedSimpArgs false
open Go.RowKit

/-- What the laws of chapter 17 take of the library's and the program's variables. -/
structure LaidD (w : World) : Prop where
  n : LaidN w
  c : Laid w
theorem LaidD.mod {w w' : World} (h : LaidD w) (hm : Mod NoB w w') : LaidD w' := ⟨h.n.mod hm, h.c.mod hm⟩
theorem laidD_of {W : World} {l : List (String × DataW Unit)} (hm : ("strings.asciiSpace", Rows.laid_strings_asciiSpace) ∈ l) (hp : ("internal/strconv.uint64pow10", Rows.laid_internal_strconv_uint64pow10) ∈ l) (he : ("strconv.ErrRange", Rows.laid_strconv_ErrRange) ∈ l)
    (hn : ("chronobate/sane.names", Rows.laid_chronobate_sane_names) ∈ l) (h : laidMet Tryz.prog l W) : LaidD W := by
  have hN := laidN_of hm hp he h
  exact ⟨hN, hN.pow, laid_strs co_gNames (t := 328) (e := 9) (n := 13) (by kernel_rfl) Tryz.underlying328 Tryz.underlying9 (by kernel_rfl) (by kernel_rfl) h (by rw [show strsData nameL = Rows.laid_chronobate_sane_names by kernel_rfl]; exact hn)⟩
/-- The text of counts. -/
def countsT (n : List Int) : List UInt8 := Lib.join (co_ents n 13) [44, 32]
theorem dcounts_any (P : DPl) (d : DaemonS) (hn : d.n.length = 13) (hc : ∀ k, 0 ≤ d.n.getD k 0 ∧ d.n.getD k 0 ≤ 9007199254740992) (w : World) (hd : DO w P d) (hL : Laid w) :
    Calls Tryz.prog 34 #[at0 P.b] w fun e w' => e = .returned (.string (bs (countsT d.n))) ∧ Mod NoB w w' := by
  have k10 := cell_of_block hd.blk 10 rfl
  have h1 := hide (co_text_of (at0 P.bc) d.n hn w (co_all_any P.bc d.n w hd.cnt) hc hL)
  clear hd hL
  go_enter Tryz.func34, Tryz.ntmps34
  go_wp2_with fail
  refine h1.out.mono ?_
  rintro e w' ⟨rfl, hm⟩
  replace hm := hide hm
  go_wp2
  go_ret
  exact ⟨rfl, hm.out⟩
end Go.Proofs.YtjlilmonpklghaaGreatDoor

namespace Go.Proofs.YtjlilmonpklghaaGreatDoor
set_option linter.unusedSimpArgs false
open Go.RowKit

theorem query_len (a : Nat) : (queryP a).bytes.length = 48 := by simp [queryP, PktS.bytes, be_len]
theorem query_lt (a : Nat) : ∀ y ∈ (queryP a).bytes, y < 256 := by
  intro y hy
  simp only [queryP, pkt0, PktS.bytes, List.mem_append, List.mem_cons, List.not_mem_nil, or_false] at hy
  rcases hy with ((((((h | h) | h) | h) | h) | h) | h) | h
  · rcases h with h | h | h | h <;> subst h <;> decide
  all_goals exact be_lt _ _ y h
theorem askSends_len (h c : Int) (draw : Nat) (ps : List PeerS) (srv : List Int) : (askSends h c draw ps srv).length ≤ srv.length := by
  unfold askSends
  refine Nat.le_trans (List.length_filterMap_le _ _) ?_
  rw [List.length_zip]
  omega
theorem do_sendsOk {d : DaemonS} (hd : d.Ok) (e : EvS) : SendsOk (doS d e).2.sends ∧ (doS d e).2.sends.length ≤ 16 := by
  have h16 := (fine_srv (check_fine hd.c)).2.1
  have nil : SendsOk [] ∧ ([] : List (Int × List Nat)).length ≤ 16 := ⟨fun _ h => (by cases h), by decide⟩
  unfold doS
  split
  · exact nil
  · split
    · refine ⟨fun x hx => ?_, ?_⟩
      · obtain ⟨i, p, q, _, _, _, h⟩ := askSends_mem hx
        rw [h, query_len]
        exact ⟨query_lt _, by omega, by omega⟩
      · exact Nat.le_trans (askSends_len _ _ _ _ _) h16
    · exact nil
theorem evOf_in {x : ActS} (ik : I64 x.e.kind) (ih : I64 x.e.h) (ia : I64 x.e.addr) (id' : x.e.draw < 18446744073709551616) (dr : Nat) : I64 (evOf x dr).kind ∧ I64 (evOf x dr).h ∧ I64 (evOf x dr).addr ∧ (evOf x dr).draw < 18446744073709551616 := by
  unfold evOf
  split
  · exact ⟨⟨by simp, by simp⟩, ih, ia, by simp⟩
  · exact ⟨ik, ih, ia, id'⟩
theorem err_in (d : DaemonS) (e : EvS) : 0 ≤ errS d e ∧ errS d e ≤ 10 := by
  unfold errS
  repeat' split
  all_goals exact ⟨by decide, by decide⟩
theorem DataAt.lt {w : World} {dp : Option Addr} {n c : Nat} {l : List Nat} (h : DataAt w (.slice dp n c) l) : ∀ bd off, dp = some ⟨bd, off, none⟩ → 0 < l.length → bd < w.heap.size := by
  intro bd off hp h0
  obtain ⟨p, c', h1, _, h3⟩ := h
  obtain ⟨b2, o2, e, _, _, hb⟩ := h3 h0
  obtain ⟨rfl, _⟩ := Value.slice.inj h1
  rw [hp] at e
  cases e
  exact lt_of_cell (hb.cell 0 h0)
/-- Data apart of a daemon that goes on. -/
theorem DTo.data {w w' : World} {P P1 : DPl} (ht : DTo P P1 w w') {dp : Option Addr} {n c : Nat} {l : List Nat} (hda : DataAt w (.slice dp n c) l) (hap : ∀ bd off, dp = some ⟨bd, off, none⟩ → 0 < l.length → ¬ fpD P bd) :
    DataAt w' (.slice dp n c) l ∧ ∀ bd off, dp = some ⟨bd, off, none⟩ → 0 < l.length → ¬ fpD P1 bd :=
  ⟨DataAt.modS hda ht.m (fun bd off p n hp h0 => by obtain ⟨rfl, _⟩ := Value.slice.inj hp; exact hap bd off rfl h0),
   fun bd off e h0 hf => (ht.f _ hf).elim (hap bd off e h0) (fun h => Nat.lt_irrefl _ (Nat.lt_of_lt_of_le (hda.lt bd off e h0) h))⟩
/-- A block apart of a daemon that goes on. -/
theorem DTo.block {w w' : World} {P P1 : DPl} (ht : DTo P P1 w w') {k : Nat} {o : Obj} (h : w.heap[k]? = some o) (hn : ¬ fpD P k) : w'.heap[k]? = some o ∧ ¬ fpD P1 k :=
  ⟨ht.m.heap h hn, fun hf => (ht.f _ hf).elim hn (fun x => Nat.lt_irrefl _ (Nat.lt_of_lt_of_le (by
    rcases Nat.lt_or_ge k w.heap.size with h1 | h1
    · exact h1
    · rw [Array.getElem?_eq_none h1] at h; cases h) x))⟩
/-- A row apart of a daemon that goes on. -/
theorem DTo.row {w w' : World} {P P1 : DPl} (ht : DTo P P1 w w') {base size n : Nat} {e : TypeId} {v : Value} {xs : List Value} (h : w.ownsRow base e size v n xs) (hn : ∀ g, v.ownBlock = some g → ¬ fpD P g) :
    w'.ownsRow base e size v n xs ∧ ∀ g, v.ownBlock = some g → ¬ fpD P1 g :=
  ⟨ownsRow_mod2 h ht.m hn, fun g hg hf => (ht.f _ hf).elim (hn g hg) (fun x => by
    obtain ⟨cur, hcur⟩ := own_block h hg
    exact Nat.lt_irrefl _ (Nat.lt_of_lt_of_le (lt_of_block hcur) x))⟩
/-- What was sent, apart of a daemon that goes on. -/
theorem DTo.sends {w w' : World} {P P1 : DPl} (ht : DTo P P1 w w') {base : Nat} {v : Value} {L : List (Int × List Nat)} (h : SendsAt w base v L) (hn : ∀ k, fpD P k → k < base) : SendsAt w' base v L :=
  h.mod ht.m (fun k hk hf => Nat.lt_irrefl _ (Nat.lt_of_lt_of_le (hn k hf) hk))
/-- Do, at an event. -/
theorem do_z {P : DPl} {d : DaemonS} (hok : d.Ok) {N : Int} (hc : d.Cnt N) (hN : N ≤ 9007199254740992) {z : EvS} (i1 : I64 z.kind) (i2 : I64 z.h) (i4 : z.draw < 18446744073709551616) (dp : Option Addr) (dc : Nat) {w : World} (hd : DO w P d)
    (hda : DataAt w (.slice dp z.data.length dc) z.data) (hap : ∀ bd off, dp = some ⟨bd, off, none⟩ → 0 < z.data.length → ¬ fpD P bd) :
    Calls Tryz.prog 19 #[at0 P.b, evV z.kind z.h z.addr z.draw (.slice dp z.data.length dc)] w (DoPost P (doS d z).1 (doS d z).2 (errS d z) w) :=
  do_any P d hok hc hN z.kind z.h z.addr i1 i2 z.draw i4 dp z.data.length dc z.data w hd hda (fun bd off a b e => hap bd off a b (e ▸ fpD.b))
theorem row_at5 {w : World} {base size n : Nat} {e : TypeId} {v : Value} {xs : List Value} (h : w.ownsRow base e size v n xs) (h0 : 0 < n) :
    ∃ g c, v = .slice (some ⟨g, 0, none⟩) n c ∧ base ≤ g ∧ ∀ i u, xs[i]? = some u → w.cell? ⟨g, i, none⟩ = some u := by
  rcases h.2 with ⟨_, h1⟩ | ⟨g, cap, cur, hv, hb, hg, h3, h4, h5, htk⟩
  · omega
  · refine ⟨g, cap, hv, hb, fun i u hu => cell_of_block hg i ?_⟩
    have hi : i < n * size := by rw [← h.1]; exact (List.getElem?_eq_some_iff.1 hu).1
    rw [← htk, List.getElem?_take_of_lt hi, Array.getElem?_toList] at hu
    exact hu
theorem cells5_new (w : World) (x y z u r : Value) (t : TypeId) : ∀ j v, [x, y, z, u, r][j]? = some v → (w.alloc (.cells #[x, y, z, u, r] t)).cell? ((⟨w.heap.size, 0, none⟩ : Addr).add j) = some v := by
  intro j v hj
  have hn := heap_alloc_new w (.cells #[x, y, z, u, r] t)
  rw [show ((⟨w.heap.size, 0, none⟩ : Addr).add j) = ⟨w.heap.size, j, none⟩ by simp [Addr.add]; omega]
  exact cell_of_block hn j (by simpa using hj)
end Go.Proofs.YtjlilmonpklghaaGreatDoor

namespace Go.Proofs.YtjlilmonpklghaaGreatDoor
set_option linter.unusedSimpArgs false
open Go.RowKit

theorem not_fp {w : World} {P : DPl} {d : DaemonS} (h : DO w P d) {k : Nat} {o : Obj} (ho : w.heap[k]? = some o) (ht : tyOf o ∉ TD) (hb : P.b ≤ k) : ¬ fpD P k := by
  intro hf
  rcases fpD_type h hf with h1 | h1
  · exact ht (h1 o ho)
  · have := h.los.1
    omega
/-- append onto a slice of one's own, in a region that keeps the text's order; where its row lies then. -/
theorem wpList_append_at {P : Program} {ops : Array Oper} {rest : List Oper} {o : Oper} {a : Act} {w : World} {Q : Exit → Act → World → Prop}
    (hg : o.guard = none) (s x : Operand) (t : TypeId) (ho : o.op = .call { callee := .builtin .append, args := #[s, x], argTypes := #[t, t] })
    (base : Nat) (e : TypeId) (i : TypeInfo) (z : Value) (size bytes : Nat) (ht : P.underlying t = some (.slice e)) (hi : P.info? e = some i) (hz : i.zero = some z)
    (hsize : i.size = size) (hby : i.bytes = bytes) (hzs : z.cells.size = size) (hsz : 0 < size)
    (v : Value) (n : Nat) (xs : List Value) (hs : a.eval s = v) (hown : w.ownsRow base e size v n xs)
    (ad : Addr) (m c : Nat) (news : List Value) (hx : a.eval x = .slice (some ad) m c) (hl : news.length = m * size) (hnews : ∀ j u, news[j]? = some u → w.cell? (ad.add j) = some u) (h1 : ∀ u ∈ news, u.oneCell' = true)
    (h63 : n + m ≤ maxLen) (hbytes : (n + m) * bytes ≤ 140737488355328) (hbase : base ≤ w.heap.size)
    (h : ∀ v' w', w'.ownsRow base e size v' (n + m) (xs ++ news) → w.grownBy w' v.ownBlock → (v'.ownBlock = v.ownBlock ∨ v'.ownBlock = some w.heap.size) → wpList P ops Q rest (a.put o.dst v') w') : wpList P ops Q (o :: rest) a w := by
  refine wpList_plain hg fun K hK => ?_
  obtain ⟨v', w', hr, h2, h3, h4, h5⟩ := run_append_own_at (P := P) w base t o.type e i z size bytes ht hi hz hsize hby hzs hsz v n xs hown ad m c news hl hnews h1 h63 hbytes hbase
  unfold Oper.wp execOp
  simp only [ho, resolve, invoke, builtin, Sem.run_bind, Sem.run_pure, Result.andThen_ok, List.map_toArray, List.map_cons, List.map_nil, hs, hx, hr]
  exact hK _ _ (h v' w' h2 h3 h5)
theorem do_c (d : DaemonS) (e : EvS) : (doS d e).1.c = d.c := by
  unfold doS
  split
  · rfl
  · split
    · rfl
    · exact (hear_rest _ _ _ _).2.1
theorem do_draw (d : DaemonS) (e : EvS) : (doS d e).1.draw = if errS d e = 0 ∧ e.kind = 0 ∧ e.draw ≠ 0 then e.draw else d.draw := by
  unfold doS
  by_cases h : errS d e = 0
  · rw [if_neg (by simp [h])]
    by_cases hk : e.kind = 0
    · rw [if_pos hk]
      show (if e.draw = 0 then d.draw else e.draw) = _
      by_cases hd : e.draw = 0
      · rw [if_pos hd, if_neg (by simp [hd])]
      · rw [if_neg hd, if_pos ⟨h, hk, hd⟩]
    · rw [if_neg hk, if_neg (by simp [hk])]
      exact (hear_rest _ _ _ _).2.2.2
  · rw [if_pos h, if_neg (by simp [h])]
theorem out_no {d : DaemonS} {e : EvS} (h : errS d e ≠ 0) : (doS d e).2 = out0 := by rw [doS_err h]
abbrev tU8 : Option TypeId := some 5
abbrev tSend : Option TypeId := some 43
/-- A row of n sends, whose bytes may have turned. -/
def SendsW (w : World) (base : Nat) (v : Value) (n : Nat) : Prop := ∀ i, i < n → ∃ g c a u m q cur ob, v = .slice (some ⟨g, 0, none⟩) n c ∧ base ≤ g ∧ w.heap[g]? = some ob ∧ tyOf ob = tSend ∧ w.cell? ⟨g, i * 2, none⟩ = some (.int .i64 a) ∧
  w.cell? ⟨g, i * 2 + 1, none⟩ = some (.slice (some ⟨u, 0, none⟩) m q) ∧ base ≤ u ∧ w.heap[u]? = some (.cells cur 5 (0, 0)) ∧ m ≤ cur.size ∧ m ≤ 1000
theorem SendsW.of {w : World} {base : Nat} {v : Value} {L : List (Int × List Nat)} (h : SendsAt w base v L) (hL : SendsOk L) : SendsW w base v L.length := by
  intro i hi
  have hx : L[i]? = some L[i] := List.getElem?_eq_getElem hi
  obtain ⟨g, c, u, h1, h2, h3, h4, h5⟩ := sends_at h hx
  obtain ⟨b1, b2, b3⟩ := hL L[i] (List.getElem_mem hi)
  have hob : ∃ ob, w.heap[g]? = some ob ∧ tyOf ob = tSend := by
    obtain ⟨vs, hl, hr, hd⟩ := h
    rcases hr.2 with ⟨_, h0⟩ | ⟨g', cap, cur, hv, _, hg, _⟩
    · omega
    · rw [h1] at hv
      cases hv
      exact ⟨_, hg, rfl⟩
  obtain ⟨ob, ho1, ho2⟩ := hob
  rcases h5.2 with ⟨_, h0⟩ | ⟨k, cap, cur, hv, hb, hg, hc1, hc2, hc3, _⟩
  · omega
  · subst hv
    exact ⟨g, c, L[i].1, k, L[i].2.length, cap, cur, ob, h1, h2, ho1, ho2, h3, h4, hb, hg, by omega, b3⟩
theorem SendsW.quiet {w w' : World} {base : Nat} {v : Value} {n : Nat} (h : SendsW w base v n) (hm : Mod NoB w w') : SendsW w' base v n := by
  intro i hi
  obtain ⟨g, c, a, u, m, q, cur, ob, h1, h2, h3, h4, h5, h6, h7, h8, h9, h10⟩ := h i hi
  exact ⟨g, c, a, u, m, q, cur, ob, h1, h2, hm.heap h3 id, h4, hm.cellAt id h5, hm.cellAt id h6, h7, hm.heap h8 id, h9, h10⟩
/-- A byte that is turned. -/
theorem SendsW.put {w : World} {base : Nat} {v : Value} {n : Nat} (h : SendsW w base v n) {u : Nat} {cur : Array Value} (hu : w.heap[u]? = some (.cells cur 5 (0, 0))) (j : Nat) (x : Value) : SendsW (w.setCell ⟨u, j, none⟩ x) base v n := by
  have hm : Mod (· = u) w (w.setCell ⟨u, j, none⟩ x) := (Mod.refl _ _).set1 _ _
  intro i hi
  obtain ⟨g, c, a, u', m, q, cur', ob, h1, h2, h3, h4, h5, h6, h7, h8, h9, h10⟩ := h i hi
  have hg : g ≠ u := fun e => by
    subst e
    rw [h3] at hu
    cases hu
    exact absurd (show tU8 = tSend from h4) (by decide)
  by_cases e : u' = u
  · subst e
    rw [h8] at hu
    cases hu
    exact ⟨g, c, a, u', m, q, _, ob, h1, h2, hm.heap h3 hg, h4, hm.cellAt hg h5, hm.cellAt hg h6, h7, heap_setCell_eq h8 x, by simpa using h9, h10⟩
  · exact ⟨g, c, a, u', m, q, cur', ob, h1, h2, hm.heap h3 hg, h4, hm.cellAt hg h5, hm.cellAt hg h6, h7, hm.heap h8 e, h9, h10⟩
/-- What is no daemon's turns no daemon. -/
theorem Two.put {w0 w w' : World} {P P' : DPl} {d m : DaemonS} (h : Two w0 P P' d m w) {S : Nat → Prop} (hm : Mod S w w') (h1 : ∀ k, S k → ¬ fpD P k) (h2 : ∀ k, S k → ¬ fpD P' k) (h0 : ∀ k, S k → w0.heap.size ≤ k) : Two w0 P P' d m w' :=
  ⟨h.d.apart hm h1, h.m.apart hm h2, h.apart, h.loL, h.loR, h.old.into hm (fun k hk => Or.inr (h0 k hk))⟩
theorem One.put {w0 w w' : World} {P : DPl} {d : DaemonS} (h : One w0 P d w) {S : Nat → Prop} (hm : Mod S w w') (h1 : ∀ k, S k → ¬ fpD P k) (h0 : ∀ k, S k → w0.heap.size ≤ k) : One w0 P d w' :=
  ⟨h.d.apart hm h1, h.lo, h.old.into hm (fun k hk => Or.inr (h0 k hk))⟩
/-- Two daemons, and a row of sends whose bytes may turn. -/
theorem Two.byte {w0 w : World} {P P' : DPl} {d m : DaemonS} (h : Two w0 P P' d m w) {u : Nat} {cur : Array Value} (hu : w.heap[u]? = some (.cells cur 5 (0, 0))) (hb : P.b ≤ u) (hb' : P'.b ≤ u) (j : Nat) (x : Value) : Two w0 P P' d m (w.setCell ⟨u, j, none⟩ x) := by
  refine h.put (S := fun k => k = u) ((Mod.refl _ _).set1 _ _) (fun k e => ?_) (fun k e => ?_) (fun k e => ?_)
  · subst e
    exact not_fp h.d hu (show tU8 ∉ TD by decide) hb
  · subst e
    exact not_fp h.m hu (show tU8 ∉ TD by decide) hb'
  · subst e
    exact Nat.le_trans h.left.b hb
/-- A row that is no daemon's. -/
def FreeRow (w : World) (T : TypeId) (size : Nat) (pv : Option Addr) (n : Nat) (Q Q' : DPl) (lo : Nat) : Prop :=
  0 < n → ∃ g cur, pv = some ⟨g, 0, none⟩ ∧ w.heap[g]? = some (.cells cur T (0, 0)) ∧ n * size ≤ cur.size ∧ ¬ fpD Q g ∧ ¬ fpD Q' g ∧ lo ≤ g
theorem FreeRow.of {w0 w w' : World} {Q Q' : DPl} {d m : DaemonS} (h : Two w0 Q Q' d m w) {T : TypeId} {size n c : Nat} {pv : Option Addr} {xs : List Value} (hr : w'.ownsRow w.heap.size T size (.slice pv n c) n xs) : FreeRow w' T size pv n Q Q' w0.heap.size := by
  intro h0
  rcases hr.2 with ⟨_, h1⟩ | ⟨g, cap, cur, hv, hb, hg, h3, h4, h5, htk⟩
  · omega
  · obtain ⟨rfl, _, rfl⟩ := Value.slice.inj hv
    refine ⟨g, cur, rfl, hg, ?_, fun x => ?_, fun x => ?_, Nat.le_trans h.old.size hb⟩
    · rw [h5]
      exact Nat.mul_le_mul_right _ h3
    · have := h.d.lt _ x
      omega
    · have := h.m.lt _ x
      omega
theorem FreeRow.quiet {w w' : World} {T : TypeId} {size n : Nat} {pv : Option Addr} {Q Q' : DPl} {lo : Nat} (h : FreeRow w T size pv n Q Q' lo) (hm : Mod NoB w w') : FreeRow w' T size pv n Q Q' lo := fun h0 =>
  let ⟨g, cur, h1, h2, h3⟩ := h h0
  ⟨g, cur, h1, hm.heap h2 id, h3⟩
/-- A cell of such a row is turned. -/
theorem FreeRow.put {w : World} {T : TypeId} {size n : Nat} {g : Nat} {Q Q' : DPl} {lo : Nat} (h : FreeRow w T size (some ⟨g, 0, none⟩) n Q Q' lo) (j : Nat) (x : Value) : FreeRow (w.setCell ⟨g, j, none⟩ x) T size (some ⟨g, 0, none⟩) n Q Q' lo := fun h0 =>
  let ⟨g', cur, h1, h2, h3, h4⟩ := h h0
  by
    cases h1
    exact ⟨g, _, rfl, heap_setCell_eq h2 x, by simpa using h3, h4⟩
theorem Two.free {w0 w : World} {P P' : DPl} {d m : DaemonS} (h : Two w0 P P' d m w) {g : Nat} (h1 : ¬ fpD P g) (h2 : ¬ fpD P' g) (h3 : w0.heap.size ≤ g) (j : Nat) (x : Value) : Two w0 P P' d m (w.setCell ⟨g, j, none⟩ x) :=
  h.put (S := fun k => k = g) ((Mod.refl _ _).set1 _ _) (fun k e => by subst e; exact h1) (fun k e => by subst e; exact h2) (fun k e => by subst e; exact h3)
end Go.Proofs.YtjlilmonpklghaaGreatDoor

