/- The document's answer of chapter 5: the words of a line. -/
import Derived.Test.YthbaoocnnfnhnaaDoorLxF
namespace Go.Proofs.YthbaoocnnfnhnaaDoor
open Go.RowKit

theorem ne_of_32 {b c : UInt8} (h : 32 ≤ b.toNat) (hc : c.toNat < 32) : (b == c) = false := by
  simp only [beq_eq_false_iff_ne, ne_eq]
  intro e
  subst e
  omega
theorem isSp_ok {b : UInt8} (h : okB b = true) : Lib.isSp b = (b == 32 || b == 9) := by
  rw [okB_eq] at h
  by_cases h9 : b = 9
  · subst h9; rfl
  · have h9' : ¬ b.toNat = 9 := fun e => h9 (UInt8.toNat_inj.mp e)
    simp [h9'] at h
    unfold Lib.isSp
    rw [ne_of_32 h.1 (by decide : (9 : UInt8).toNat < 32), ne_of_32 h.1 (by decide : (10 : UInt8).toNat < 32), ne_of_32 h.1 (by decide : (11 : UInt8).toNat < 32), ne_of_32 h.1 (by decide : (12 : UInt8).toNat < 32), ne_of_32 h.1 (by decide : (13 : UInt8).toNat < 32)]
    simp

/-- What has been read of a word. -/
def readTo (l : List UInt8) (fr : Int) (i : Nat) (cur : List UInt8) : Prop := (fr = -1 ∧ cur = []) ∨ ∃ f : Nat, fr = f ∧ f < i ∧ cur = (l.drop f).take (i - f) ∧ cur ≠ []

theorem go_sp {cur r : List UInt8} {b : UInt8} (h : Lib.isSp b = true) : Lib.fieldsGo cur (b :: r) = (if cur = [] then [] else [cur]) ++ Lib.fieldsGo [] r := by
  rw [Lib.fieldsGo, if_pos h]
  cases cur <;> simp
theorem go_on {cur r : List UInt8} {b : UInt8} (h : Lib.isSp b = false) : Lib.fieldsGo cur (b :: r) = Lib.fieldsGo (cur ++ [b]) r := by
  rw [Lib.fieldsGo, if_neg (by simp [h])]
theorem go_end (cur : List UInt8) : Lib.fieldsGo cur [] = if cur = [] then [] else [cur] := by
  rw [Lib.fieldsGo]
  cases cur <;> simp

/-- A word more, or none. -/
theorem StrsAt.snoc {base : Nat} {W : World} {v : Value} {O : List (List UInt8)} {x : List UInt8} (h : W.ownsRow base 9 1 v (O.length + 1) ((O.map fun s => .string (bs s)) ++ [.string (bs x)])) : StrsAt base W v (O ++ [x]) := by
  show W.ownsRow _ _ _ _ _ _
  simpa using h

set_option maxRecDepth 100000 in
set_option maxHeartbeats 8000000 in
theorem rwords_any (l : List UInt8) (w : World) (hl : l.length ≤ 1000000) :
    Calls Tryd.prog 28 #[.string (bs l)] w fun e w' =>
      (((upTo l 35).all okB = false ∧ e = .returned (.tuple #[.slice none 0 0, .bool false])) ∨ ((upTo l 35).all okB = true ∧ ∃ v, e = .returned (.tuple #[v, .bool true]) ∧ StrsAt w.heap.size w' v (Lib.fields (upTo l 35)))) ∧ Mod NoB w w' := by
  obtain ⟨i0, hi, hz0, hz1, hz2⟩ := info_parts infoStr
  replace hi := hide hi
  replace hz0 := hide hz0
  replace hz1 := hide hz1
  replace hz2 := hide hz2
  obtain ⟨t, ht⟩ : ∃ t, upTo l 35 = t := ⟨_, rfl⟩
  have htl : t.length ≤ l.length := by rw [← ht]; exact upTo_le l 35
  have htt : t = l.take t.length := by have := upTo_take l 35; rw [ht] at this; exact this
  rw [ht]
  replace ht := hide ht
  obtain ⟨tb, htb⟩ : ∃ v, t.all okB = v := ⟨_, rfl⟩
  rw [htb]
  replace htb := hide htb
  replace htt := hide htt
  go_enter Tryd.func28, Tryd.ntmps28
  go_wp2_with fail
  go_loopw [4, 5, 6] (fun v vf vi wr => ∃ (i : Nat) (O : List (List UInt8)) (cur : List UInt8) (fr : Int), vf = .int .i64 fr ∧ vi = .int .i64 i ∧ i ≤ t.length ∧ (t.take i).all okB = true ∧ StrsAt w.heap.size wr v O ∧ O ++ Lib.fieldsGo cur (t.drop i) = Lib.fields t ∧ readTo l fr i cur ∧ O.length ≤ i ∧ Mod NoB w wr) (fun _ _ vi _ => t.length + 1 - (intOf vi).toNat)
  case atStart => exact ⟨0, [], [], -1, rfl, rfl, by omega, by simp, World.ownsRow_nil _ _ _ _, rfl, Or.inl ⟨rfl, rfl⟩, by simp, Mod.refl _ _⟩
  case round =>
    obtain ⟨i, O, cur, fr, rfl, rfl, hit, hall, hst, heq, hrd, hOl, hm⟩ := hrel
    obtain ⟨p, n, cp, rfl⟩ := own_slice hst
    have hsz := hm.size
    replace hst := hide hst
    replace hm := hide hm
    replace hall := hide hall
    by_cases hlt : i < t.length
    · obtain ⟨b, hb⟩ : ∃ b, t[i]? = some b := ⟨t[i], by simp [hlt]⟩
      have hbl : l[i]? = some b := by
        have := hb
        rw [htt.out, List.getElem?_take_of_lt hlt] at this
        exact this
      have hbi : ∀ h : i < (bs l).size, (bs l)[i]'h = b := fun h => (List.getElem?_eq_some_iff.mp hbl).2
      have hill : i < l.length := by omega
      have hn35 : ¬ b.toNat = 35 := fun e => by
        have h1 : b = 35 := UInt8.toNat_inj.mp e
        have h2 := upTo_not l 35
        rw [ht.out] at h2
        subst h1
        exact h2 (List.mem_of_getElem? hb)
      have hdr : t.drop i = b :: t.drop (i + 1) := by
        rw [← List.getElem_cons_drop hlt]
        congr 1
        exact (List.getElem?_eq_some_iff.mp hb).2
      have hall2 : (t.take (i + 1)).all okB = okB b := by
        rw [List.take_add_one, hb]
        simp [List.all_append, hall.out]
      have hbad : okB b = false → tb = false := fun h => by rw [← htb.out]; exact all_false hb h
      have hil : (i : Int) ≠ (l.length : Int) := by omega
      have hil2 : ((i : Int) == (l.length : Int)) = false := by simp; omega
      have hm35 : ((b.toNat : Int) == 35) = false := by simp; omega
      have hm35' : ¬ (b.toNat : Int) = 35 := by omega
      by_cases h9 : b.toNat = 9
      · have hv : (b.toNat : Int) = 9 := by omega
        have hbt : okB b = true := by rw [okB_eq]; simp; omega
        have hsp : Lib.isSp b = true := by
          rw [isSp_ok hbt]
          have : b = 9 := UInt8.toNat_inj.mp h9
          subst this; rfl
        rw [hdr, go_sp hsp, ← List.append_assoc] at heq
        rw [hbt] at hall2
        replace hall2 := hide hall2
        clear hbad hdr hb hbl hall hit hbt hsp
        rcases hrd with ⟨rfl, rfl⟩ | ⟨f, rfl, hfi, hcur, hne⟩
        · simp only [if_true, List.append_nil] at heq
          replace heq := hide heq
          go_wp2
          all_goals first
            | (exfalso; omega)
            | (go_roundw
               case rel => exact ⟨i + 1, O, [], -1, rfl, by go_num, by omega, hall2.out, hst.out, heq.out, Or.inl ⟨rfl, rfl⟩, by omega, hm.out⟩
               case measure => simp [intOf]; omega)
        · rw [if_neg hne] at heq
          replace heq := hide heq
          have hsl : (bs l).extract f i = bs cur := by rw [bs_slice, hcur]
          clear hcur hne
          go_wp2_with (refine wpList_append_own _ rfl _ _ 34 rfl w.heap.size 9 i0 (.string ⟨#[]⟩) 1 16 Tryd.underlying34 hi.out hz0.out hz1.out hz2.out rfl (by decide) (.slice p n cp) O.length _ rfl (ownsRow_mod (S := NoB) hst.out ((Mod.refl _ _).alloc _) (fun _ h => h.elim)) ⟨wr.heap.size, 0, none⟩ 1 1 [.string (bs cur)] rfl rfl (cell_one_new _ _ _) (by intro u hu; simp at hu; subst hu; rfl) (by unfold maxLen; omega) (by omega) (by simp; omega) ?_; intro v' w5 hown' hgrow _)
          go_roundw
          case rel => exact ⟨i + 1, O ++ [cur], [], -1, rfl, by go_num, by omega, hall2.out, StrsAt.snoc hown', heq.out, Or.inl ⟨rfl, rfl⟩, by simp; omega, (hm.out.alloc _).grown hgrow (own_ge hst.out)⟩
          case measure => simp [intOf]; omega
      · have hm9 : ((b.toNat : Int) != 9) = true := by simp; omega
        have hm9' : ¬ (b.toNat : Int) = 9 := by omega
        by_cases hl32 : b.toNat < 32
        · have hl32' : (b.toNat : Int) < 32 := by omega
          have hbf : okB b = false := by rw [okB_eq]; simp; omega
          have hbad2 := hide (hbad hbf)
          clear hbad hall2 hdr heq hb hbl hall hit hrd hOl hbf
          go_wp2
          all_goals first
            | (exfalso; omega)
            | (go_ret2; exact ⟨.inl ⟨hbad2.out, rfl⟩, hm.out⟩)
        · by_cases h126 : 126 < b.toNat
          · have h126' : (126 : Int) < b.toNat := by omega
            have hl32' : ¬ (b.toNat : Int) < 32 := by omega
            have hbf : okB b = false := by rw [okB_eq]; simp; omega
            have hbad2 := hide (hbad hbf)
            clear hbad hall2 hdr heq hb hbl hall hit hrd hOl hbf
            go_wp2
            all_goals first
              | (exfalso; omega)
              | (go_ret2; exact ⟨.inl ⟨hbad2.out, rfl⟩, hm.out⟩)
          · have h126' : ¬ (126 : Int) < b.toNat := by omega
            have hl32' : ¬ (b.toNat : Int) < 32 := by omega
            by_cases h32 : b.toNat = 32
            · have hv : (b.toNat : Int) = 32 := by omega
              have hbt : okB b = true := by rw [okB_eq]; simp; omega
              have hsp : Lib.isSp b = true := by
                rw [isSp_ok hbt]
                have : b = 32 := UInt8.toNat_inj.mp h32
                subst this; rfl
              rw [hdr, go_sp hsp, ← List.append_assoc] at heq
              rw [hbt] at hall2
              replace hall2 := hide hall2
              clear hbad hdr hb hbl hall hit hbt hsp
              rcases hrd with ⟨rfl, rfl⟩ | ⟨f, rfl, hfi, hcur, hne⟩
              · simp only [if_true, List.append_nil] at heq
                replace heq := hide heq
                go_wp2
                all_goals first
                  | (exfalso; omega)
                  | (go_roundw
                     case rel => exact ⟨i + 1, O, [], -1, rfl, by go_num, by omega, hall2.out, hst.out, heq.out, Or.inl ⟨rfl, rfl⟩, by omega, hm.out⟩
                     case measure => simp [intOf]; omega)
              · rw [if_neg hne] at heq
                replace heq := hide heq
                have hsl : (bs l).extract f i = bs cur := by rw [bs_slice, hcur]
                clear hcur hne
                go_wp2_with (refine wpList_append_own _ rfl _ _ 34 rfl w.heap.size 9 i0 (.string ⟨#[]⟩) 1 16 Tryd.underlying34 hi.out hz0.out hz1.out hz2.out rfl (by decide) (.slice p n cp) O.length _ rfl (ownsRow_mod (S := NoB) hst.out ((Mod.refl _ _).alloc _) (fun _ h => h.elim)) ⟨wr.heap.size, 0, none⟩ 1 1 [.string (bs cur)] rfl rfl (cell_one_new _ _ _) (by intro u hu; simp at hu; subst hu; rfl) (by unfold maxLen; omega) (by omega) (by simp; omega) ?_; intro v' w5 hown' hgrow _)
                go_roundw
                case rel => exact ⟨i + 1, O ++ [cur], [], -1, rfl, by go_num, by omega, hall2.out, StrsAt.snoc hown', heq.out, Or.inl ⟨rfl, rfl⟩, by simp; omega, (hm.out.alloc _).grown hgrow (own_ge hst.out)⟩
                case measure => simp [intOf]; omega
            · have hm32 : ¬ (b.toNat : Int) = 32 := by omega
              have hm32' : ((b.toNat : Int) == 32) = false := by simp; omega
              have hm9'' : ((b.toNat : Int) == 9) = false := by simp; omega
              have hbt : okB b = true := by rw [okB_eq]; simp; omega
              have hsp : Lib.isSp b = false := by
                rw [isSp_ok hbt]
                have e1 : b ≠ 32 := fun e => h32 (by rw [e]; rfl)
                have e2 : b ≠ 9 := fun e => h9 (by rw [e]; rfl)
                simp [e1, e2]
              rw [hdr, go_on hsp] at heq
              rw [hbt] at hall2
              replace hall2 := hide hall2
              replace heq := hide heq
              have hdl : l.drop i = b :: l.drop (i + 1) := by
                rw [← List.getElem_cons_drop hill]
                congr 1
                exact (List.getElem?_eq_some_iff.mp hbl).2
              clear hbad hdr hb hall hit hbt hsp
              rcases hrd with ⟨rfl, rfl⟩ | ⟨f, rfl, hfi, hcur, hne⟩
              · have hrd2 : Hid (readTo l (i : Int) (i + 1) [b]) := hide (Or.inr ⟨i, rfl, by omega, by rw [hdl]; simp, by simp⟩)
                clear hbl hdl
                go_wp2
                all_goals first
                  | (exfalso; omega)
                  | (go_roundw
                     case rel => exact ⟨i + 1, O, [b], i, rfl, by go_num, by omega, hall2.out, hst.out, heq.out, hrd2.out, by omega, hm.out⟩
                     case measure => simp [intOf]; omega)
              · have hrd2 : Hid (readTo l (f : Int) (i + 1) (cur ++ [b])) := hide (Or.inr ⟨f, rfl, by omega, by
                  have h1 : (l.drop f)[i - f]? = some b := by rw [List.getElem?_drop, ← hbl]; congr 1; omega
                  rw [show i + 1 - f = (i - f) + 1 by omega, List.take_add_one, h1, hcur]
                  rfl, by simp⟩)
                clear hbl hdl hcur hne
                go_wp2
                all_goals first
                  | (exfalso; omega)
                  | (go_roundw
                     case rel => exact ⟨i + 1, O, cur ++ [b], f, rfl, by go_num, by omega, hall2.out, hst.out, heq.out, hrd2.out, by omega, hm.out⟩
                     case measure => simp [intOf]; omega)
    · have hie : t.length = i := by omega
      have htrue : Hid (tb = true) := hide (by
        have h := hall.out
        rw [List.take_of_length_le (by omega)] at h
        rw [← htb.out]; exact h)
      rw [List.drop_of_length_le (by omega), go_end] at heq
      by_cases hill : i = l.length
      · have hil2 : ((i : Int) == (l.length : Int)) = true := by simp; omega
        have hil3 : i ≤ l.length := by omega
        clear hill
        rcases hrd with ⟨rfl, rfl⟩ | ⟨f, rfl, hfi, hcur, hne⟩
        · simp only [if_true, List.append_nil] at heq
          rw [heq] at hst
          replace heq := hide heq
          go_wp2
          all_goals first
            | (exfalso; omega)
            | (go_ret2; exact ⟨.inr ⟨htrue.out, _, rfl, hst.out⟩, hm.out⟩)
        · rw [if_neg hne] at heq
          replace heq := hide heq
          have hsl : (bs l).extract f i = bs cur := by rw [bs_slice, hcur]
          clear hcur hne
          go_wp2_with (refine wpList_append_own _ rfl _ _ 34 rfl w.heap.size 9 i0 (.string ⟨#[]⟩) 1 16 Tryd.underlying34 hi.out hz0.out hz1.out hz2.out rfl (by decide) (.slice p n cp) O.length _ rfl (ownsRow_mod (S := NoB) hst.out ((Mod.refl _ _).alloc _) (fun _ h => h.elim)) ⟨wr.heap.size, 0, none⟩ 1 1 [.string (bs cur)] rfl rfl (cell_one_new _ _ _) (by intro u hu; simp at hu; subst hu; rfl) (by unfold maxLen; omega) (by omega) (by simp; omega) ?_; intro v' w5 hown' hgrow _)
          go_ret2
          exact ⟨.inr ⟨htrue.out, _, rfl, by rw [← heq.out]; exact StrsAt.snoc hown'⟩, (hm.out.alloc _).grown hgrow (own_ge hst.out)⟩
      · have hil2 : ((i : Int) == (l.length : Int)) = false := by simp; omega
        have hlt2 : i < l.length := by omega
        have hb35 : l[i]? = some 35 := by
          have h1 : (35 : UInt8) ∈ l := by
            rcases Decidable.em ((35 : UInt8) ∈ l) with h | h
            · exact h
            · have := upTo_all h
              rw [ht.out] at this
              rw [this] at hie
              omega
          have h2 := index_upTo l 35
          rw [if_pos h1, ht.out, hie] at h2
          exact (Lib.indexByte_some h2).1
        have hbi : ∀ h : i < (bs l).size, (bs l)[i]'h = 35 := fun h => (List.getElem?_eq_some_iff.mp hb35).2
        have h35 : (UInt8.toNat 35 : Int) = 35 := rfl
        clear hb35
        rcases hrd with ⟨rfl, rfl⟩ | ⟨f, rfl, hfi, hcur, hne⟩
        · simp only [if_true, List.append_nil] at heq
          rw [heq] at hst
          replace heq := hide heq
          go_wp2
          all_goals first
            | (exfalso; omega)
            | (go_ret2; exact ⟨.inr ⟨htrue.out, _, rfl, hst.out⟩, hm.out⟩)
        · rw [if_neg hne] at heq
          replace heq := hide heq
          have hsl : (bs l).extract f i = bs cur := by rw [bs_slice, hcur]
          clear hcur hne
          go_wp2_with (refine wpList_append_own _ rfl _ _ 34 rfl w.heap.size 9 i0 (.string ⟨#[]⟩) 1 16 Tryd.underlying34 hi.out hz0.out hz1.out hz2.out rfl (by decide) (.slice p n cp) O.length _ rfl (ownsRow_mod (S := NoB) hst.out ((Mod.refl _ _).alloc _) (fun _ h => h.elim)) ⟨wr.heap.size, 0, none⟩ 1 1 [.string (bs cur)] rfl rfl (cell_one_new _ _ _) (by intro u hu; simp at hu; subst hu; rfl) (by unfold maxLen; omega) (by omega) (by simp; omega) ?_; intro v' w5 hown' hgrow _)
          go_ret2
          exact ⟨.inr ⟨htrue.out, _, rfl, by rw [← heq.out]; exact StrsAt.snoc hown'⟩, (hm.out.alloc _).grown hgrow (own_ge hst.out)⟩
end Go.Proofs.YthbaoocnnfnhnaaDoor
