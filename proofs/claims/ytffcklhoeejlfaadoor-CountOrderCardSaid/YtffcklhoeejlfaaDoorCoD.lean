/- Package count: the counts' text. -/
import Derived.Test.YtffcklhoeejlfaaDoorCoC
import Derived.Test.YtffcklhoeejlfaaDoorKitApp
import Derived.Lib.ItoaLen
namespace Go.Proofs.YtffcklhoeejlfaaDoor
open Go.RowKit

/-- What Text lists of the first k reasons. -/
def ents (c : List Int) (k : Nat) : List (List UInt8) :=
  (List.range k).flatMap fun i => if 0 < c.getD i 0 then [nameL.getD i [] ++ [32] ++ Lib.itoa (c.getD i 0)] else []

theorem ents_succ (c : List Int) (k : Nat) : ents c (k + 1) = ents c k ++ if 0 < c.getD k 0 then [nameL.getD k [] ++ [32] ++ Lib.itoa (c.getD k 0)] else [] := by
  simp [ents, List.range_succ]
theorem ents_len (c : List Int) (k : Nat) : (ents c k).length ≤ k := by
  induction k with
  | zero => simp [ents]
  | succ k ih => rw [ents_succ]; split <;> simp <;> omega

theorem nameL_len (k : Nat) : (nameL.getD k []).length ≤ 8 := by
  by_cases hk : k < 13
  · match k, hk with
    | 0, _ | 1, _ | 2, _ | 3, _ | 4, _ | 5, _ | 6, _ | 7, _ | 8, _ | 9, _ | 10, _ | 11, _ | 12, _ => decide
  · have : nameL.length = 13 := rfl
    simp [List.getD, List.getElem?_eq_none (show nameL.length ≤ k by omega)]

theorem ents_each (c : List Int) (hc : ∀ k, 0 ≤ c.getD k 0 ∧ c.getD k 0 ≤ 9007199254740992) (k : Nat) : ∀ s ∈ ents c k, s.length ≤ 30 := by
  intro s hs
  simp only [ents, List.mem_flatMap, List.mem_range] at hs
  obtain ⟨i, _, hs⟩ := hs
  split at hs
  · simp only [List.mem_singleton] at hs
    subst hs
    have h1 := nameL_len i
    have h2 := Lib.itoa_length_le (c.getD i 0) (by have := hc i; omega) (by have := hc i; omega)
    simp only [List.length_append, List.length_cons, List.length_nil]
    omega
  · cases hs

theorem lens_le (xs : List (List UInt8)) (n : Nat) (h : ∀ s ∈ xs, s.length ≤ n) : Lib.lens xs ≤ xs.length * n := by
  induction xs with
  | nil => simp [Lib.lens]
  | cons x xs ih =>
    have h1 := h x (by simp)
    have h2 := ih fun s hs => h s (by simp [hs])
    simp only [Lib.lens, List.map_cons, List.sum_cons, List.length_cons, Nat.succ_mul] at *
    omega

theorem join_le (xs : List (List UInt8)) (sep : List UInt8) (n : Nat) (h : ∀ s ∈ xs, s.length ≤ n) : (Lib.join xs sep).length ≤ xs.length * (n + sep.length) := by
  cases xs with
  | nil => simp [Lib.join_nil]
  | cons x r =>
    rw [Lib.join_length]
    have := lens_le (x :: r) n h
    simp only [List.length_cons, Nat.mul_add, Nat.succ_mul, Nat.mul_comm sep.length] at *
    omega

/-- strings.Join of a slice of the call's own. -/
theorem join_own (w : World) (base : Nat) (v : Value) (xs : List (List UInt8)) (sep : List UInt8) (h : w.ownsRow base 9 1 v xs.length (xs.map fun s => .string (bs s)))
    (hlen : (Lib.join xs sep).length ≤ 140737488355328) (hN : xs.length ≤ 140737488355328) :
    Calls Tryd.prog 21 #[v, .string (bs sep)] w fun e w' => e = .returned (.string (bs (Lib.join xs sep))) ∧ Mod NoB w w' := by
  have hmap : (xs.map bs).map (·.data.toList) = xs := by
    rw [List.map_map]
    exact List.map_id'' (fun _ => rfl) xs
  rcases h.2 with ⟨rfl, h0⟩ | ⟨g, cap, cur, rfl, hb, hg, hcap, hmx, hsz, htk⟩
  · obtain rfl : xs = [] := List.length_eq_zero_iff.1 h0
    refine (Tryd.strings_Join_none none 0 (bs sep) w).mono ?_
    rintro e w' ⟨rfl, rfl⟩
    exact ⟨rfl, Mod.refl _ _⟩
  · have hl : (xs.map bs).length = xs.length := by simp
    have := Tryd.strings_Join g 0 cap (xs.map bs) (bs sep) w (fun j x hx => by
        rw [Nat.zero_add, h.cellAt j (by
          rcases Nat.lt_or_ge j xs.length with hj | hj
          · omega
          · rw [List.getElem?_eq_none (by simpa using hj)] at hx; cases hx)]
        rw [List.getElem?_map] at hx ⊢
        cases hj : xs[j]? with
        | none => simp [hj] at hx
        | some y => simp [hj] at hx; simp [← hx])
      (lt_of_block hg) (by rw [hl]; exact hN) (by rw [hl]; exact hcap) (by rw [hmap]; exact hlen)
    rw [hl, hmap] at this
    refine this.mono ?_
    rintro e w' ⟨rfl, hbl⟩
    exact ⟨rfl, Below.mod hbl⟩

theorem infoStr : (Tryd.prog.info? 9).map (fun i => (i.zero, i.size, i.bytes)) = some (some (.string ⟨#[]⟩), 1, 16) := by kernel_rfl

set_option maxHeartbeats 2000000 in
theorem text_of (p : Value) (c : List Int) (hl : c.length = 13) (w : World) (hp : Calls Tryd.prog 18 #[p] w fun e w'' => e = .returned (ints c) ∧ Mod NoB w w'') (hc : ∀ k, 0 ≤ c.getD k 0 ∧ c.getD k 0 ≤ 9007199254740992) (hL : Laid w) :
    Calls Tryd.prog 12 #[p] w fun e w' => e = .returned (.string (bs (Lib.join (ents c 13) [44, 32]))) ∧ Mod NoB w w' := by
  obtain ⟨i0, hi, hz0, hz1, hz2⟩ := info_parts infoStr
  replace hp := hide hp
  replace hL := hide hL
  replace hi := hide hi
  replace hz0 := hide hz0
  replace hz1 := hide hz1
  replace hz2 := hide hz2
  go_enter Tryd.func12, Tryd.ntmps12
  go_wp2_with fail
  refine hp.out.mono ?_
  rintro e w1 ⟨rfl, hm⟩
  replace hm := hide hm
  go_wp2_with fail
  go_loopw [3, 8] (fun v i wr => ∃ k : Nat, k ≤ 13 ∧ i = .int .i64 k ∧ wr.ownsRow w.heap.size 9 1 v (ents c k).length ((ents c k).map fun s => .string (bs s)) ∧ Mod NoB w wr) (fun _ i _ => 13 - (intOf i).toNat)
  case atStart => exact ⟨0, by omega, rfl, World.ownsRow_nil _ _ _ _, hm.out⟩
  case round =>
    obtain ⟨k, hk, rfl, hown, hmr⟩ := hrel
    have hLr := hide (hL.out.mod hmr)
    have hsz := hmr.size
    replace hmr := hide hmr
    replace hown := hide hown
    by_cases hlt : k < 13
    · have hix := run_index_ints 45 Tryd.underlying45 c hl k hlt
      obtain ⟨x1, x2⟩ := hc k
      have hnx := hide (ents_succ c k)
      have hel := ents_len c k
      replace hl := hide hl
      generalize c.getD k 0 = x at hix x1 x2 hnx
      have hil := Lib.itoa_length_le x (by omega) (by omega)
      have hnl := nameL_len k
      have hcell : ∀ w', NamesPost w' = fun e w'' => ∃ r cap, e = .returned (.slice (some ⟨r, 0, none⟩) 13 cap) ∧ (∀ i, i < 13 → w''.cell? ⟨r, i, none⟩ = some (.string (bs (nameL.getD i [])))) ∧ w'.heap.size ≤ r ∧ r < w''.heap.size ∧ Mod NoB w' w'' := fun _ => rfl
      have hnk := hide (rfl : nameL.getD k [] = nameL.getD k [])
      obtain ⟨nm, hnm⟩ : ∃ nm, nameL.getD k [] = nm := ⟨_, rfl⟩
      rw [hnm] at hnx hnl
      replace hnm := hide hnm
      clear hcell hnk
      have q1 : (9223372036854775807 < nm.length + 1) = False := by simp; omega
      have q2 : (9223372036854775807 < nm.length + 1 + (Lib.itoa x).length) = False := by simp; omega
      by_cases h0 : x = 0
      · subst h0
        go_wp2
        go_roundw
        case rel => exact ⟨k + 1, by omega, by go_num, by rw [hnx.out]; simpa using hown.out, hmr.out⟩
        case measure => simp [intOf]; omega
      · have hpos : 0 < x := by omega
        clear h0
        go_wp2_with fail
        go_region_law (first
          | (go_simp; go_at_call 19; refine (names_any _ (hLr.out.mod (Mod.refl _ _).drew)).mono ?_; rintro e w5 ⟨r, cap, rfl, hcs, hr1, hr2, hm5⟩; have hcA := hcs k hlt; rw [hnm.out] at hcA; have hcB : ∀ w'', Mod NoB w5 w'' → w''.cell? ⟨r, k, none⟩ = some (.string (bs nm)) := (fun w'' hmm => hmm.cellAt id hcA); replace hcs := hide hcs)
          | (go_simp; go_at_call 20; refine (itoa_any x ⟨by omega, by omega⟩ _ (hLr.out.mod ((Mod.refl _ _).drew.trans hm5))).mono ?_; rintro e w6 ⟨rfl, hm6⟩)
          | (refine step_append_own rfl (.tmp 14) (.tmp 23) 35 rfl w.heap.size 9 i0 (.string ⟨#[]⟩) 1 16 Tryd.underlying35 hi.out hz0.out hz1.out hz2.out rfl (by decide) u3 (ents c k).length ((ents c k).map fun s => .string (bs s)) rfl ?o ⟨_, 0, none⟩ 1 1 [.string (bs nm ++ ⟨#[32]⟩ ++ bs (Lib.itoa x))] rfl rfl ?n ?one ?m ?mb ?base ?_; (case o => exact (ownsRow_mod hown.out (((Mod.refl _ _).drew.trans hm5).trans hm6) (fun _ f => f.elim)).alloc _); (case n => exact cell_one_new _ _ _); (case one => (intro u hu; simp at hu; subst hu; rfl)); (case m => (unfold maxLen; omega)); (case mb => omega); (case base => (have z1 := hm5.size; have z2 := hm6.size; simp at z1 ⊢; omega)); intro v' w7 hown' hgrow _))
        all_goals
          have hown2 : Hid (w7.ownsRow w.heap.size 9 1 v' (ents c (k + 1)).length ((ents c (k + 1)).map fun s => .string (bs s))) := hide (by
            rw [hnx.out, if_pos hpos, List.length_append, List.map_append]
            have e1 : bs nm ++ ⟨#[32]⟩ ++ bs (Lib.itoa x) = bs (nm ++ [32] ++ Lib.itoa x) := (congrArg (· ++ bs (Lib.itoa x)) (bytes_append nm [32])).trans (bytes_append (nm ++ [32]) (Lib.itoa x))
            rw [e1] at hown'
            exact hown')
          have hm7 : Hid (Mod NoB w w7) := hide (((((hmr.out.drew.trans hm5).trans hm6).alloc _).grown hgrow (fun q hq => (hown.out.lt q hq).1)))
          clear hown' hgrow hm5 hm6 hcB hcA
          go_wp2
          go_roundw
          case rel => exact ⟨k + 1, by omega, by go_num, hown2.out, hm7.out⟩
          case measure => simp [intOf]; omega
    · obtain rfl : k = 13 := by omega
      have hel := ents_len c 13
      have hjl := join_le (ents c 13) [44, 32] 30 (ents_each c hc 13)
      replace hc := hide hc
      replace hjl : (Lib.join (ents c 13) [44, 32]).length ≤ 13 * 32 := Nat.le_trans hjl (Nat.mul_le_mul hel (Nat.le_refl 32))
      go_wp2_with fail
      refine (join_own _ _ _ (ents c 13) [44, 32] hown.out (by omega) (by omega)).mono ?_
      rintro e w8 ⟨rfl, hm8⟩
      replace hm8 := hide hm8
      go_wp2
      go_ret
      exact ⟨rfl, hmr.out.trans hm8.out⟩
end Go.Proofs.YtffcklhoeejlfaaDoor
