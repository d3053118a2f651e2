/- append onto a row of texts of the call's own, as a step of a region that draws its order; strings.Join at any separator; strings.Split between lines. -/
import Derived.Test.YtdcmjjinmnbaoaaGreatDoorMG
namespace Go.Proofs.YtdcmjjinmnbaoaaGreatDoor
open Go.RowKit

theorem own_empty (w : World) (base : Nat) (h : base ≤ w.heap.size) : StrsAt base (w.alloc (.cells #[] 9)) (.slice (some ⟨w.heap.size, 0, none⟩) 0 0) [] :=
  ⟨rfl, Or.inr ⟨w.heap.size, 0, #[], rfl, h, heap_alloc_new _ _, Nat.le_refl _, by unfold maxLen; omega, rfl, rfl⟩⟩

theorem own_at {w : World} {base b : Nat} (h : w.heap[b]? = some (.cells #[] 9 (0, 0))) (hb : base ≤ b) : StrsAt base w (.slice (some ⟨b, 0, none⟩) 0 0) [] :=
  ⟨rfl, Or.inr ⟨b, 0, #[], rfl, hb, h, Nat.le_refl _, by unfold maxLen; omega, rfl, rfl⟩⟩
theorem one_at {w : World} {b : Nat} {s : List UInt8} (h : w.heap[b]? = some (.cells #[.string (bs s)] 9 (0, 0))) : ∀ (j : Nat) (y : List UInt8), [s][j]? = some y → w.cell? ((⟨b, 0, none⟩ : Addr).add j) = some (.string (bs y)) := by
  intro j y hy
  cases j with
  | zero => simp at hy; subst hy; exact cell_of_block h 0 rfl
  | succ j => simp at hy

theorem one_mid (w : World) (o o' : Obj) : ((w.alloc o).alloc o').heap[w.heap.size]? = some o := (heap_alloc_old (by simp) _).trans (heap_alloc_new _ _)
theorem one_top (w : World) (o o' : Obj) : ((w.alloc o').alloc o).heap[w.heap.size + 1]? = some o := by
  have := heap_alloc_new (w.alloc o') o
  rwa [World.size_alloc] at this

theorem step_app_strs {ops : Array Oper} {o : Oper} {a : Act} {w : World} {K : Act → World → Prop} {Q : Exit → Act → World → Prop} {E : Prop}
    (hg : o.guard = none) (s x : Operand) (ho : o.op = .call { callee := .builtin .append, args := #[s, x], argTypes := #[29, 29] })
    (base : Nat) (v : Value) (ws : List (List UInt8)) (hs : a.eval s = v) (hown : StrsAt base w v ws)
    (ad : Addr) (m c : Nat) (ys : List (List UInt8)) (hx : a.eval x = .slice (some ad) m c) (hm : m = ys.length) (hcell : ∀ j y, ys[j]? = some y → w.cell? (ad.add j) = some (.string (bs y)))
    (hlen : ws.length + ys.length ≤ 100000) (hbase : base ≤ w.heap.size)
    (h : ∀ p n c' w', StrsAt base w' (.slice p n c') (ws ++ ys) → Mod (fun x => base ≤ x ∧ v.ownBlock = some x) w w' → K (a.put o.dst (.slice p n c')) w') :
    if Region.wanted o (yielded ops a.tmps) = true then Oper.wp Tryz.prog o a w K Q else E := by
  obtain ⟨i0, hi, hz0, hz1, hz2⟩ := info_parts infoStr
  subst hm
  refine step_append_own hg s x 29 ho base 9 i0 (.string ⟨#[]⟩) 1 16 Tryz.underlying29 hi hz0 hz1 hz2 rfl (by decide) v ws.length (ws.map fun s => .string (bs s)) hs hown ad ys.length c (ys.map fun s => .string (bs s)) hx (by simp) ?_ ?_ (by unfold maxLen; omega) (by omega) hbase ?_
  · intro j u hu
    rw [List.getElem?_map] at hu
    cases hy : ys[j]? with
    | none => rw [hy] at hu; cases hu
    | some y => rw [hy] at hu; cases hu; exact hcell j y hy
  · intro u hu
    obtain ⟨y, _, rfl⟩ := List.mem_map.1 hu
    rfl
  · intro v' w' hown' hgrow _
    obtain ⟨p, n, c', rfl⟩ := own_slice hown'
    refine h p n c' w' ?_ (Mod.grownIn (Mod.refl _ _) hgrow (fun k hk => ⟨own_ge hown k hk, hk⟩))
    unfold StrsAt
    rw [List.length_append, List.map_append]
    exact hown'

theorem join_any (u : Option Addr) (n c base : Nat) (ws : List (List UInt8)) (sep : List UInt8) (W : World) (h : StrsAt base W (.slice u n c) ws) (h0 : 0 < ws.length) (hl : ws.length ≤ 1000) (hs : sep.length ≤ 100) (hw : ∀ x ∈ ws, x.length ≤ 1000) :
    Calls Tryz.prog 9 #[.slice u n c, .string (bs sep)] W fun e w' => e = .returned (.string (bs (Lib.join ws sep))) ∧ Mod NoB W w' := by
  have hn : n = ws.length := own_len h
  subst hn
  obtain ⟨g, cap, e1, hg, hcap, hc⟩ := h.open h0
  cases e1
  have hmap : (ws.map bs).map (·.data.toList) = ws := by simp [List.map_map, Function.comp_def]
  have hj := Tryz.strings_Join g 0 c (ws.map bs) (bs sep) W (fun j x hx => by
      rw [List.getElem?_map] at hx
      cases hy : ws[j]? with
      | none => rw [hy] at hx; cases hx
      | some y =>
        rw [hy] at hx
        cases hx
        rw [Nat.zero_add]
        exact hc j y hy) (by
      obtain ⟨y, hy⟩ : ∃ y, ws[0]? = some y := ⟨ws[0], by simp [h0]⟩
      have := hc 0 y hy
      rcases Nat.lt_or_ge g W.heap.size with h | h
      · exact h
      · simp [World.cell?, Array.getElem?_eq_none h] at this) (by simp; omega) (by simpa using hcap) (by
      rw [hmap]
      have h2 : (Lib.join ws (bs sep).data.toList).length ≤ 1000 * 2000 := by
        cases ws with
        | nil => simp [Lib.join_nil]
        | cons x ws =>
          rw [Lib.join_length]
          have h3 : Lib.lens (x :: ws) ≤ (x :: ws).length * 1000 := by
            have key : ∀ l : List (List UInt8), (∀ x ∈ l, x.length ≤ 1000) → Lib.lens l ≤ l.length * 1000 := by
              intro l
              induction l with
              | nil => intro _; simp [Lib.lens]
              | cons y l ih =>
                intro hy
                have i1 := ih (fun z hz => hy z (by simp [hz]))
                have i2 := hy y (by simp)
                simp [Lib.lens, Nat.succ_mul] at i1 ⊢
                omega
            exact key _ hw
          have h4 : (bs sep).data.toList.length = sep.length := by simp
          have h5 : sep.length * ((x :: ws).length - 1) ≤ 100 * 1000 := Nat.mul_le_mul hs (by simp at hl ⊢; omega)
          simp at h3 h4 h5 hl ⊢
          omega
      show _ ≤ _
      omega)
  have hbt : (bs sep).data.toList = sep := by simp
  rw [hmap, List.length_map, hbt] at hj
  exact hj.mono fun e w' ⟨h1, h2⟩ => ⟨h1, Below.mod h2⟩

theorem splitB_lines {L : List (List UInt8)} (h0 : L ≠ []) (hs : ∀ s ∈ L, (10 : UInt8) ∉ s) : Lib.countB (bs (nl L)) ⟨#[10]⟩ + 1 = L.length ∧ (Lib.splitB ⟨#[10]⟩ 0 (Lib.countB (bs (nl L)) ⟨#[10]⟩) (bs (nl L))).map Value.string = L.map fun s => .string (bs s) := by
  have hc : Lib.countB (bs (nl L)) ⟨#[10]⟩ = L.length - 1 := by
    have : Lib.countB (bs (nl L)) ⟨#[10]⟩ = Lib.count (nl L) [10] := by unfold Lib.countB; simp
    rw [this, Lib.count_one, nl_count L h0 hs]
  have hp : 0 < L.length := List.length_pos_iff.2 h0
  refine ⟨by omega, ?_⟩
  have h1 := Lib.splitB_data ⟨#[10]⟩ 0 (L.length - 1) (bs (nl L))
  have h2 := split_nl L h0 hs
  have h3 : (bs (nl L)).data.toList = nl L := by simp
  rw [h3] at h1
  have h4 : (⟨#[10]⟩ : ByteArray).data.toList = [10] := rfl
  rw [h4, h2] at h1
  rw [hc]
  have key : ∀ M : List ByteArray, M.map (·.data.toList) = L → M.map Value.string = L.map fun s => .string (bs s) := by
    intro M hM
    rw [← hM, List.map_map]
    refine List.map_congr_left fun x _ => ?_
    simp
  exact key _ h1
/-- Lines' text is split into them. -/
theorem splitl_any (L : List (List UInt8)) (m : Int) (W : World) (h0 : L ≠ []) (hs : ∀ s ∈ L, (10 : UInt8) ∉ s) (hl : (nl L).length ≤ 100000) (hm : W.cell? ⟨1, 0, none⟩ = some (.int .i64 m)) :
    Calls Tryz.prog 6 #[.string (bs (nl L)), .string ⟨#[10]⟩] W fun e w' => e = .returned (.slice (some ⟨W.heap.size, 0, none⟩) L.length L.length) ∧ w' = W.alloc (.cells (L.map fun s => .string (bs s)).toArray 9) := by
  obtain ⟨h1, h2⟩ := splitB_lines h0 hs
  refine (Tryz.strings_Split (bs (nl L)) ⟨#[10]⟩ m W (by show (nl L).length < _; omega) hm (by decide)).mono ?_
  rintro e w' ⟨rfl, rfl⟩
  rw [h1, h2]
  exact ⟨rfl, rfl⟩

theorem hassuf_any (l : List UInt8) (hl : l.length ≤ 100000) (w : World) :
    Calls Tryz.prog 31 #[.string (bs (l ++ [10])), .string ⟨#[10]⟩] w fun e w' => e = .returned (.bool true) ∧ Mod NoB w w' := by
  have hex : (bs (l ++ [10])).extract l.length (l.length + 1) = ⟨#[10]⟩ := by
    apply ByteArray.ext
    simp [ByteArray.data_extract]
  go_enter Tryz.func31, Tryz.ntmps31
  go_wp2
  go_ret
  exact ⟨rfl, Mod.refl _ _⟩
theorem trimIn_any (l : List UInt8) (hl : l.length ≤ 100000) (w : World) :
    Calls Tryz.prog 18 #[.string (bs (l ++ [10])), .string ⟨#[10]⟩] w fun e w' => e = .returned (.string (bs l)) ∧ Mod NoB w w' := by
  have hex : (bs (l ++ [10])).extract 0 l.length = bs l := by
    apply ByteArray.ext
    simp [ByteArray.data_extract]
  have hh := hide (fun w' => hassuf_any l hl w')
  go_enter Tryz.func18, Tryz.ntmps18
  go_wp2_with fail
  refine (hh.out _).mono ?_
  rintro e w1 ⟨rfl, hm⟩
  replace hm := hide hm
  go_wp2
  go_ret
  exact ⟨rfl, hm.out⟩
theorem trims_any (l : List UInt8) (hl : l.length ≤ 100000) (w : World) :
    Calls Tryz.prog 7 #[.string (bs (l ++ [10])), .string ⟨#[10]⟩] w fun e w' => e = .returned (.string (bs l)) ∧ Mod NoB w w' := by
  have hh := hide (fun w' => trimIn_any l hl w')
  go_enter Tryz.func7, Tryz.ntmps7
  go_wp2_with fail
  refine (hh.out _).mono ?_
  rintro e w1 ⟨rfl, hm⟩
  replace hm := hide hm
  go_wp2
  go_ret
  exact ⟨rfl, hm.out⟩
theorem ends_nl10 {L : List (List UInt8)} (h : L ≠ []) : ends L = nl L ++ [10] := by
  induction L with
  | nil => exact absurd rfl h
  | cons s L ih =>
    cases L with
    | nil => simp [ends, nl]
    | cons t L => rw [ends, ih (by simp), nl_cons (r := t :: L) (by simp)]; simp
theorem join_nl {L : List (List UInt8)} (h : L ≠ []) : Lib.join L [10] = nl L := by
  induction L with
  | nil => exact absurd rfl h
  | cons s L ih =>
    cases L with
    | nil => rw [Lib.join_one]; rfl
    | cons t L =>
      have h1 := ih (by simp)
      rw [Lib.join_cons] at h1 ⊢
      rw [nl_cons (by simp), ← h1]
      simp [Lib.joinTail]
end Go.Proofs.YtdcmjjinmnbaoaaGreatDoor
