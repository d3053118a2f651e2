/- The document's answer of chapter 5: its texts between a byte. The document's answer of chapter 5: the words of a line. The document's answer of chapter 5: the lines of a text. Rows of lines: their cells. -/
import Derived.Test.YtkajhggdgpbfeaaGreatDoorPNai
namespace Go.Proofs.YtkajhggdgpbfeaaGreatDoor
open Go.RowKit

def partsL (c : UInt8) (l : List UInt8) (k : Nat) : List (List UInt8) := (List.range k).map (partF c l)
theorem partsL_succ (c : UInt8) (l : List UInt8) (k : Nat) : partsL c l (k + 1) = partsL c l k ++ [partF c l k] := by simp [partsL, List.range_succ]

theorem bs_slice (l : List UInt8) (f i : Nat) : (bs l).extract f i = bs ((l.drop f).take (i - f)) := by
  apply ByteArray.ext
  simp [ByteArray.data_extract]

theorem upTo_at {l : List UInt8} {c : UInt8} {n : Nat} (h : l[n]? = some c) (hn : c ∉ l.take n) : upTo l c = l.take n := by
  induction l generalizing n with
  | nil => simp at h
  | cons b l ih =>
    cases n with
    | zero => simp at h; subst h; simp [upTo]
    | succ n =>
      simp at h hn
      have hb : (b != c) = true := by simpa using fun e => hn.1 e.symm
      unfold upTo
      rw [List.takeWhile_cons, if_pos hb, List.take_succ_cons]
      congr 1
      exact ih h hn.2

theorem infoStr : (Tryz.prog.info? 9).map (fun i => (i.zero, i.size, i.bytes)) = some (some (.string ⟨#[]⟩), 1, 16) := by kernel_rfl

set_option maxHeartbeats 8000000 in
set_option maxRecDepth 100000 in
theorem rcut_any (l : List UInt8) (c : UInt8) (w : World) (hl : l.length ≤ 1000000) :
    Calls Tryz.prog 109 #[.string (bs l), .int .u8 (c.toNat : Nat)] w fun e w' => ∃ v, e = .returned v ∧ StrsAt w.heap.size w' v (partsL c l (partsN c l)) ∧ Mod NoB w w' := by
  obtain ⟨i0, hi, hz0, hz1, hz2⟩ := info_parts infoStr
  replace hi := hide hi
  replace hz0 := hide hz0
  replace hz1 := hide hz1
  replace hz2 := hide hz2
  go_enter Tryz.func109, Tryz.ntmps109
  go_wp2_with fail
  go_loopw [5, 6, 7] (fun v vf vi wr => ∃ (k f i : Nat), vf = .int .i64 f ∧ vi = .int .i64 i ∧ f ≤ i ∧ i ≤ l.length ∧ restF c l k = l.drop f ∧ c ∉ (l.drop f).take (i - f) ∧ (l.take f).count c = k ∧ StrsAt w.heap.size wr v (partsL c l k) ∧ Mod NoB w wr) (fun _ _ vi _ => l.length - (intOf vi).toNat)
  case atStart => exact ⟨0, 0, 0, rfl, rfl, by omega, by omega, rfl, by simp, by simp, World.ownsRow_nil _ _ _ _, Mod.refl _ _⟩
  case round =>
    obtain ⟨k, f, i, rfl, rfl, hfi, hil, hre, hno, hct, hst, hm⟩ := hrel
    have hkf : k ≤ l.length := by have := List.count_le_length (a := c) (l := l.take f); simp at this; omega
    have hpl : (partsL c l k).length = k := by simp [partsL]
    replace hre := hide hre
    replace hct := hide hct
    have hsz := hm.size
    by_cases hlt : i < l.length
    · obtain ⟨b, hb⟩ : ∃ b, l[i]? = some b := ⟨l[i], by simp [hlt]⟩
      have hbn : (b.toNat : Int) < 256 := by have := b.toNat_lt; omega
      by_cases hbc : b = c
      · subst hbc
        obtain ⟨p, n, cp, rfl⟩ := own_slice hst
        have hbi : ∀ h : i < (bs l).size, (bs l)[i]'h = b := fun h => by
          have := List.getElem?_eq_some_iff.mp hb
          exact this.2
        have hdr : l.drop (i + 1) = (l.drop f).drop ((i - f) + 1) := by rw [List.drop_drop]; congr 1; omega
        have hat : (l.drop f)[i - f]? = some b := by rw [List.getElem?_drop, ← hb]; congr 1; omega
        have hpk : partF b l k = (l.drop f).take (i - f) := by rw [partF, hre.out]; exact upTo_at hat hno
        have hlen : ((l.drop f).take (i - f)).length = i - f := by simp; omega
        have hre2 : Hid (restF b l (k + 1) = l.drop (i + 1)) := hide (by
          show (restF b l k).drop ((partF b l k).length + 1) = _
          rw [hpk, hlen, hre.out, hdr])
        have hct2 : Hid ((l.take (i + 1)).count b = k + 1) := hide (by
          have h1 : l.take (i + 1) = l.take f ++ ((l.drop f).take (i - f) ++ [b]) := by
            have h2 : l.take (i + 1) = l.take i ++ [b] := by rw [List.take_add_one, hb]; rfl
            have h3 : l.take i = l.take f ++ (l.drop f).take (i - f) := by
              have : i = f + (i - f) := by omega
              conv => lhs; rw [this]
              exact List.take_add
            rw [h2, h3, List.append_assoc]
          rw [h1, List.count_append, List.count_append, hct.out, List.count_eq_zero.mpr hno]
          simp)
        have hsl : (bs l).extract f i = bs (partF b l k) := by rw [bs_slice, hpk]
        have hps := partsL_succ b l k
        generalize partF b l k = pt at hsl hps hpk
        clear hre hct hno hdr hat hlen hpk
        replace hps := hide hps
        replace hst := hide hst
        replace hm := hide hm
        replace hpl := hide hpl
        go_wp2_with (refine wpList_append_own _ rfl (.tmp 19) (.tmp 24) 153 rfl w.heap.size 9 i0 (.string ⟨#[]⟩) 1 16 Tryz.underlying153 hi.out hz0.out hz1.out hz2.out rfl (by decide) (.slice p n cp) (partsL b l k).length _ rfl (ownsRow_mod (S := NoB) hst.out ((Mod.refl _ _).alloc _) (fun _ h => h.elim)) ⟨wr.heap.size, 0, none⟩ 1 1 [.string (bs pt)] rfl rfl (cell_one_new _ _ _) (by intro u hu; simp at hu; subst hu; rfl) (by rw [hpl.out]; unfold maxLen; omega) (by rw [hpl.out]; omega) (by simp; omega) ?_; intro v' w5 hown' hgrow _)
        go_roundw
        case rel =>
          refine ⟨k + 1, i + 1, i + 1, by go_num, by go_num, by omega, by omega, hre2.out, by simp, hct2.out, ?_, (hm.out.alloc _).grown hgrow (own_ge hst.out)⟩
          rw [hps.out]
          show w5.ownsRow _ _ _ _ _ _
          simpa using hown'
        case measure => simp [intOf]; omega
      · obtain ⟨p, n, cp, rfl⟩ := own_slice hst
        have hbi : ∀ h : i < (bs l).size, (bs l)[i]'h = b := fun h => by
          have := List.getElem?_eq_some_iff.mp hb
          exact this.2
        have hne : ((b.toNat : Int) == (c.toNat : Int)) = false := by
          simp
          intro h
          exact hbc (UInt8.toNat_inj.mp (by omega))
        have hne2 : ¬ (b.toNat : Int) = (c.toNat : Int) := by simpa using hne
        have hat : (l.drop f)[i - f]? = some b := by rw [List.getElem?_drop, ← hb]; congr 1; omega
        have hno2 : Hid (c ∉ (l.drop f).take (i + 1 - f)) := hide (by
          rw [show i + 1 - f = (i - f) + 1 by omega, List.take_add_one, hat]
          simp only [Option.toList_some, List.mem_append, List.mem_singleton]
          rintro (h | h)
          · exact hno h
          · exact hbc h.symm)
        clear hno hat hbc
        replace hst := hide hst
        replace hm := hide hm
        go_wp2
        all_goals first
          | (exfalso; omega)
          | (go_roundw
             case rel => exact ⟨k, f, i + 1, by go_num, by go_num, by omega, by omega, hre.out, hno2.out, hct.out, hst.out, hm.out⟩
             case measure => simp [intOf]; omega)
    · obtain rfl : i = l.length := by omega
      obtain ⟨p, n, cp, rfl⟩ := own_slice hst
      have hno3 : c ∉ l.drop f := by
        have h := hno
        rwa [List.take_of_length_le (by simp)] at h
      have hpk : partF c l k = l.drop f := by rw [partF, hre.out]; exact upTo_all hno3
      have hN : partsN c l = k + 1 := by
        unfold partsN
        have h1 : l.count c = (l.take f).count c + (l.drop f).count c := by
          conv => lhs; rw [← List.take_append_drop f l]
          exact List.count_append
        rw [h1, hct.out, List.count_eq_zero.mpr hno3]
      have hsl : (bs l).extract f l.length = bs (partF c l k) := by rw [bs_drop, hpk]
      have hps := partsL_succ c l k
      rw [← hN] at hps
      generalize partF c l k = pt at hsl hps hpk
      clear hre hct hno hno3 hpk hN
      replace hps := hide hps
      replace hst := hide hst
      replace hm := hide hm
      replace hpl := hide hpl
      go_wp2_with (refine wpList_append_own _ rfl _ _ 153 rfl w.heap.size 9 i0 (.string ⟨#[]⟩) 1 16 Tryz.underlying153 hi.out hz0.out hz1.out hz2.out rfl (by decide) (.slice p n cp) (partsL c l k).length _ rfl (ownsRow_mod (S := NoB) hst.out ((Mod.refl _ _).alloc _) (fun _ h => h.elim)) ⟨wr.heap.size, 0, none⟩ 1 1 [.string (bs pt)] rfl rfl (cell_one_new _ _ _) (by intro u hu; simp at hu; subst hu; rfl) (by rw [hpl.out]; unfold maxLen; omega) (by rw [hpl.out]; omega) (by simp; omega) ?_; intro v' w5 hown' hgrow _)
      go_ret
      refine ⟨_, rfl, ?_, (hm.out.alloc _).grown hgrow (own_ge hst.out)⟩
      rw [hps.out]
      show w5.ownsRow _ _ _ _ _ _
      simpa using hown'
end Go.Proofs.YtkajhggdgpbfeaaGreatDoor

namespace Go.Proofs.YtkajhggdgpbfeaaGreatDoor
open Go.RowKit

theorem ne_of_32 {b c : UInt8} (h : 32 ≤ b.toNat) (hc : c.toNat < 32) : (b == c) = false := by
  simp only [beq_eq_false_iff_ne, ne_eq]
  intro e
  subst e
  omega
theorem isSp_ok {b : UInt8} (h : okB b = true) : Lib.isSp b = (b == 32 || b == 9) := by
  rw [okB_eq] at h
  by_cases h9 : b = 9
  · subst h9; rfl
  · have h9' : ¬ b.toNat = 9 := fun e => h9 (UInt8.toNat_inj.mp e)
    simp [h9'] at h
    unfold Lib.isSp
    rw [ne_of_32 h.1 (by decide : (9 : UInt8).toNat < 32), ne_of_32 h.1 (by decide : (10 : UInt8).toNat < 32), ne_of_32 h.1 (by decide : (11 : UInt8).toNat < 32), ne_of_32 h.1 (by decide : (12 : UInt8).toNat < 32), ne_of_32 h.1 (by decide : (13 : UInt8).toNat < 32)]
    simp

/-- What has been read of a word. -/
def readTo (l : List UInt8) (fr : Int) (i : Nat) (cur : List UInt8) : Prop := (fr = -1 ∧ cur = []) ∨ ∃ f : Nat, fr = f ∧ f < i ∧ cur = (l.drop f).take (i - f) ∧ cur ≠ []

theorem go_sp {cur r : List UInt8} {b : UInt8} (h : Lib.isSp b = true) : Lib.fieldsGo cur (b :: r) = (if cur = [] then [] else [cur]) ++ Lib.fieldsGo [] r := by
  rw [Lib.fieldsGo, if_pos h]
  cases cur <;> simp
theorem go_on {cur r : List UInt8} {b : UInt8} (h : Lib.isSp b = false) : Lib.fieldsGo cur (b :: r) = Lib.fieldsGo (cur ++ [b]) r := by
  rw [Lib.fieldsGo, if_neg (by simp [h])]
theorem go_end (cur : List UInt8) : Lib.fieldsGo cur [] = if cur = [] then [] else [cur] := by
  rw [Lib.fieldsGo]
  cases cur <;> simp

/-- A word more, or none. -/
theorem StrsAt.snoc {base : Nat} {W : World} {v : Value} {O : List (List UInt8)} {x : List UInt8} (h : W.ownsRow base 9 1 v (O.length + 1) ((O.map fun s => .string (bs s)) ++ [.string (bs x)])) : StrsAt base W v (O ++ [x]) := by
  show W.ownsRow _ _ _ _ _ _
  simpa using h

set_option maxRecDepth 100000 in
set_option maxHeartbeats 8000000 in
theorem rwords_any (l : List UInt8) (w : World) (hl : l.length ≤ 1000000) :
    Calls Tryz.prog 110 #[.string (bs l)] w fun e w' =>
      (((upTo l 35).all okB = false ∧ e = .returned (.tuple #[.slice none 0 0, .bool false])) ∨ ((upTo l 35).all okB = true ∧ ∃ v, e = .returned (.tuple #[v, .bool true]) ∧ StrsAt w.heap.size w' v (Lib.fields (upTo l 35)))) ∧ Mod NoB w w' := by
  obtain ⟨i0, hi, hz0, hz1, hz2⟩ := info_parts infoStr
  replace hi := hide hi
  replace hz0 := hide hz0
  replace hz1 := hide hz1
  replace hz2 := hide hz2
  obtain ⟨t, ht⟩ : ∃ t, upTo l 35 = t := ⟨_, rfl⟩
  have htl : t.length ≤ l.length := by rw [← ht]; exact upTo_le l 35
  have htt : t = l.take t.length := by have := upTo_take l 35; rw [ht] at this; exact this
  rw [ht]
  replace ht := hide ht
  obtain ⟨tb, htb⟩ : ∃ v, t.all okB = v := ⟨_, rfl⟩
  rw [htb]
  replace htb := hide htb
  replace htt := hide htt
  go_enter Tryz.func110, Tryz.ntmps110
  go_wp2_with fail
  go_loopw [4, 5, 6] (fun v vf vi wr => ∃ (i : Nat) (O : List (List UInt8)) (cur : List UInt8) (fr : Int), vf = .int .i64 fr ∧ vi = .int .i64 i ∧ i ≤ t.length ∧ (t.take i).all okB = true ∧ StrsAt w.heap.size wr v O ∧ O ++ Lib.fieldsGo cur (t.drop i) = Lib.fields t ∧ readTo l fr i cur ∧ O.length ≤ i ∧ Mod NoB w wr) (fun _ _ vi _ => t.length + 1 - (intOf vi).toNat)
  case atStart => exact ⟨0, [], [], -1, rfl, rfl, by omega, by simp, World.ownsRow_nil _ _ _ _, rfl, Or.inl ⟨rfl, rfl⟩, by simp, Mod.refl _ _⟩
  case round =>
    obtain ⟨i, O, cur, fr, rfl, rfl, hit, hall, hst, heq, hrd, hOl, hm⟩ := hrel
    obtain ⟨p, n, cp, rfl⟩ := own_slice hst
    have hsz := hm.size
    replace hst := hide hst
    replace hm := hide hm
    replace hall := hide hall
    by_cases hlt : i < t.length
    · obtain ⟨b, hb⟩ : ∃ b, t[i]? = some b := ⟨t[i], by simp [hlt]⟩
      have hbl : l[i]? = some b := by
        have := hb
        rw [htt.out, List.getElem?_take_of_lt hlt] at this
        exact this
      have hbi : ∀ h : i < (bs l).size, (bs l)[i]'h = b := fun h => (List.getElem?_eq_some_iff.mp hbl).2
      have hill : i < l.length := by omega
      have hn35 : ¬ b.toNat = 35 := fun e => by
        have h1 : b = 35 := UInt8.toNat_inj.mp e
        have h2 := upTo_not l 35
        rw [ht.out] at h2
        subst h1
        exact h2 (List.mem_of_getElem? hb)
      have hdr : t.drop i = b :: t.drop (i + 1) := by
        rw [← List.getElem_cons_drop hlt]
        congr 1
        exact (List.getElem?_eq_some_iff.mp hb).2
      have hall2 : (t.take (i + 1)).all okB = okB b := by
        rw [List.take_add_one, hb]
        simp [List.all_append, hall.out]
      have hbad : okB b = false → tb = false := fun h => by rw [← htb.out]; exact all_false hb h
      have hil : (i : Int) ≠ (l.length : Int) := by omega
      have hil2 : ((i : Int) == (l.length : Int)) = false := by simp; omega
      have hm35 : ((b.toNat : Int) == 35) = false := by simp; omega
      have hm35' : ¬ (b.toNat : Int) = 35 := by omega
      by_cases h9 : b.toNat = 9
      · have hv : (b.toNat : Int) = 9 := by omega
        have hbt : okB b = true := by rw [okB_eq]; simp; omega
        have hsp : Lib.isSp b = true := by
          rw [isSp_ok hbt]
          have : b = 9 := UInt8.toNat_inj.mp h9
          subst this; rfl
        rw [hdr, go_sp hsp, ← List.append_assoc] at heq
        rw [hbt] at hall2
        replace hall2 := hide hall2
        clear hbad hdr hb hbl hall hit hbt hsp
        rcases hrd with ⟨rfl, rfl⟩ | ⟨f, rfl, hfi, hcur, hne⟩
        · simp only [if_true, List.append_nil] at heq
          replace heq := hide heq
          go_wp2
          all_goals first
            | (exfalso; omega)
            | (go_roundw
               case rel => exact ⟨i + 1, O, [], -1, rfl, by go_num, by omega, hall2.out, hst.out, heq.out, Or.inl ⟨rfl, rfl⟩, by omega, hm.out⟩
               case measure => simp [intOf]; omega)
        · rw [if_neg hne] at heq
          replace heq := hide heq
          have hsl : (bs l).extract f i = bs cur := by rw [bs_slice, hcur]
          clear hcur hne
          go_wp2_with (refine wpList_append_own _ rfl _ _ 153 rfl w.heap.size 9 i0 (.string ⟨#[]⟩) 1 16 Tryz.underlying153 hi.out hz0.out hz1.out hz2.out rfl (by decide) (.slice p n cp) O.length _ rfl (ownsRow_mod (S := NoB) hst.out ((Mod.refl _ _).alloc _) (fun _ h => h.elim)) ⟨wr.heap.size, 0, none⟩ 1 1 [.string (bs cur)] rfl rfl (cell_one_new _ _ _) (by intro u hu; simp at hu; subst hu; rfl) (by unfold maxLen; omega) (by omega) (by simp; omega) ?_; intro v' w5 hown' hgrow _)
          go_roundw
          case rel => exact ⟨i + 1, O ++ [cur], [], -1, rfl, by go_num, by omega, hall2.out, StrsAt.snoc hown', heq.out, Or.inl ⟨rfl, rfl⟩, by simp; omega, (hm.out.alloc _).grown hgrow (own_ge hst.out)⟩
          case measure => simp [intOf]; omega
      · have hm9 : ((b.toNat : Int) != 9) = true := by simp; omega
        have hm9' : ¬ (b.toNat : Int) = 9 := by omega
        by_cases hl32 : b.toNat < 32
        · have hl32' : (b.toNat : Int) < 32 := by omega
          have hbf : okB b = false := by rw [okB_eq]; simp; omega
          have hbad2 := hide (hbad hbf)
          clear hbad hall2 hdr heq hb hbl hall hit hrd hOl hbf
          go_wp2
          all_goals first
            | (exfalso; omega)
            | (go_ret2; exact ⟨.inl ⟨hbad2.out, rfl⟩, hm.out⟩)
        · by_cases h126 : 126 < b.toNat
          · have h126' : (126 : Int) < b.toNat := by omega
            have hl32' : ¬ (b.toNat : Int) < 32 := by omega
            have hbf : okB b = false := by rw [okB_eq]; simp; omega
            have hbad2 := hide (hbad hbf)
            clear hbad hall2 hdr heq hb hbl hall hit hrd hOl hbf
            go_wp2
            all_goals first
              | (exfalso; omega)
              | (go_ret2; exact ⟨.inl ⟨hbad2.out, rfl⟩, hm.out⟩)
          · have h126' : ¬ (126 : Int) < b.toNat := by omega
            have hl32' : ¬ (b.toNat : Int) < 32 := by omega
            by_cases h32 : b.toNat = 32
            · have hv : (b.toNat : Int) = 32 := by omega
              have hbt : okB b = true := by rw [okB_eq]; simp; omega
              have hsp : Lib.isSp b = true := by
                rw [isSp_ok hbt]
                have : b = 32 := UInt8.toNat_inj.mp h32
                subst this; rfl
              rw [hdr, go_sp hsp, ← List.append_assoc] at heq
              rw [hbt] at hall2
              replace hall2 := hide hall2
              clear hbad hdr hb hbl hall hit hbt hsp
              rcases hrd with ⟨rfl, rfl⟩ | ⟨f, rfl, hfi, hcur, hne⟩
              · simp only [if_true, List.append_nil] at heq
                replace heq := hide heq
                go_wp2
                all_goals first
                  | (exfalso; omega)
                  | (go_roundw
                     case rel => exact ⟨i + 1, O, [], -1, rfl, by go_num, by omega, hall2.out, hst.out, heq.out, Or.inl ⟨rfl, rfl⟩, by omega, hm.out⟩
                     case measure => simp [intOf]; omega)
              · rw [if_neg hne] at heq
                replace heq := hide heq
                have hsl : (bs l).extract f i = bs cur := by rw [bs_slice, hcur]
                clear hcur hne
                go_wp2_with (refine wpList_append_own _ rfl _ _ 153 rfl w.heap.size 9 i0 (.string ⟨#[]⟩) 1 16 Tryz.underlying153 hi.out hz0.out hz1.out hz2.out rfl (by decide) (.slice p n cp) O.length _ rfl (ownsRow_mod (S := NoB) hst.out ((Mod.refl _ _).alloc _) (fun _ h => h.elim)) ⟨wr.heap.size, 0, none⟩ 1 1 [.string (bs cur)] rfl rfl (cell_one_new _ _ _) (by intro u hu; simp at hu; subst hu; rfl) (by unfold maxLen; omega) (by omega) (by simp; omega) ?_; intro v' w5 hown' hgrow _)
                go_roundw
                case rel => exact ⟨i + 1, O ++ [cur], [], -1, rfl, by go_num, by omega, hall2.out, StrsAt.snoc hown', heq.out, Or.inl ⟨rfl, rfl⟩, by simp; omega, (hm.out.alloc _).grown hgrow (own_ge hst.out)⟩
                case measure => simp [intOf]; omega
            · have hm32 : ¬ (b.toNat : Int) = 32 := by omega
              have hm32' : ((b.toNat : Int) == 32) = false := by simp; omega
              have hm9'' : ((b.toNat : Int) == 9) = false := by simp; omega
              have hbt : okB b = true := by rw [okB_eq]; simp; omega
              have hsp : Lib.isSp b = false := by
                rw [isSp_ok hbt]
                have e1 : b ≠ 32 := fun e => h32 (by rw [e]; rfl)
                have e2 : b ≠ 9 := fun e => h9 (by rw [e]; rfl)
                simp [e1, e2]
              rw [hdr, go_on hsp] at heq
              rw [hbt] at hall2
              replace hall2 := hide hall2
              replace heq := hide heq
              have hdl : l.drop i = b :: l.drop (i + 1) := by
                rw [← List.getElem_cons_drop hill]
                congr 1
                exact (List.getElem?_eq_some_iff.mp hbl).2
              clear hbad hdr hb hall hit hbt hsp
              rcases hrd with ⟨rfl, rfl⟩ | ⟨f, rfl, hfi, hcur, hne⟩
              · have hrd2 : Hid (readTo l (i : Int) (i + 1) [b]) := hide (Or.inr ⟨i, rfl, by omega, by rw [hdl]; simp, by simp⟩)
                clear hbl hdl
                go_wp2
                all_goals first
                  | (exfalso; omega)
                  | (go_roundw
                     case rel => exact ⟨i + 1, O, [b], i, rfl, by go_num, by omega, hall2.out, hst.out, heq.out, hrd2.out, by omega, hm.out⟩
                     case measure => simp [intOf]; omega)
              · have hrd2 : Hid (readTo l (f : Int) (i + 1) (cur ++ [b])) := hide (Or.inr ⟨f, rfl, by omega, by
                  have h1 : (l.drop f)[i - f]? = some b := by rw [List.getElem?_drop, ← hbl]; congr 1; omega
                  rw [show i + 1 - f = (i - f) + 1 by omega, List.take_add_one, h1, hcur]
                  rfl, by simp⟩)
                clear hbl hdl hcur hne
                go_wp2
                all_goals first
                  | (exfalso; omega)
                  | (go_roundw
                     case rel => exact ⟨i + 1, O, cur ++ [b], f, rfl, by go_num, by omega, hall2.out, hst.out, heq.out, hrd2.out, by omega, hm.out⟩
                     case measure => simp [intOf]; omega)
    · have hie : t.length = i := by omega
      have htrue : Hid (tb = true) := hide (by
        have h := hall.out
        rw [List.take_of_length_le (by omega)] at h
        rw [← htb.out]; exact h)
      rw [List.drop_of_length_le (by omega), go_end] at heq
      by_cases hill : i = l.length
      · have hil2 : ((i : Int) == (l.length : Int)) = true := by simp; omega
        have hil3 : i ≤ l.length := by omega
        clear hill
        rcases hrd with ⟨rfl, rfl⟩ | ⟨f, rfl, hfi, hcur, hne⟩
        · simp only [if_true, List.append_nil] at heq
          rw [heq] at hst
          replace heq := hide heq
          go_wp2
          all_goals first
            | (exfalso; omega)
            | (go_ret2; exact ⟨.inr ⟨htrue.out, _, rfl, hst.out⟩, hm.out⟩)
        · rw [if_neg hne] at heq
          replace heq := hide heq
          have hsl : (bs l).extract f i = bs cur := by rw [bs_slice, hcur]
          clear hcur hne
          go_wp2_with (refine wpList_append_own _ rfl _ _ 153 rfl w.heap.size 9 i0 (.string ⟨#[]⟩) 1 16 Tryz.underlying153 hi.out hz0.out hz1.out hz2.out rfl (by decide) (.slice p n cp) O.length _ rfl (ownsRow_mod (S := NoB) hst.out ((Mod.refl _ _).alloc _) (fun _ h => h.elim)) ⟨wr.heap.size, 0, none⟩ 1 1 [.string (bs cur)] rfl rfl (cell_one_new _ _ _) (by intro u hu; simp at hu; subst hu; rfl) (by unfold maxLen; omega) (by omega) (by simp; omega) ?_; intro v' w5 hown' hgrow _)
          go_ret2
          exact ⟨.inr ⟨htrue.out, _, rfl, by rw [← heq.out]; exact StrsAt.snoc hown'⟩, (hm.out.alloc _).grown hgrow (own_ge hst.out)⟩
      · have hil2 : ((i : Int) == (l.length : Int)) = false := by simp; omega
        have hlt2 : i < l.length := by omega
        have hb35 : l[i]? = some 35 := by
          have h1 : (35 : UInt8) ∈ l := by
            rcases Decidable.em ((35 : UInt8) ∈ l) with h | h
            · exact h
            · have := upTo_all h
              rw [ht.out] at this
              rw [this] at hie
              omega
          have h2 := index_upTo l 35
          rw [if_pos h1, ht.out, hie] at h2
          exact (Lib.indexByte_some h2).1
        have hbi : ∀ h : i < (bs l).size, (bs l)[i]'h = 35 := fun h => (List.getElem?_eq_some_iff.mp hb35).2
        have h35 : (UInt8.toNat 35 : Int) = 35 := rfl
        clear hb35
        rcases hrd with ⟨rfl, rfl⟩ | ⟨f, rfl, hfi, hcur, hne⟩
        · simp only [if_true, List.append_nil] at heq
          rw [heq] at hst
          replace heq := hide heq
          go_wp2
          all_goals first
            | (exfalso; omega)
            | (go_ret2; exact ⟨.inr ⟨htrue.out, _, rfl, hst.out⟩, hm.out⟩)
        · rw [if_neg hne] at heq
          replace heq := hide heq
          have hsl : (bs l).extract f i = bs cur := by rw [bs_slice, hcur]
          clear hcur hne
          go_wp2_with (refine wpList_append_own _ rfl _ _ 153 rfl w.heap.size 9 i0 (.string ⟨#[]⟩) 1 16 Tryz.underlying153 hi.out hz0.out hz1.out hz2.out rfl (by decide) (.slice p n cp) O.length _ rfl (ownsRow_mod (S := NoB) hst.out ((Mod.refl _ _).alloc _) (fun _ h => h.elim)) ⟨wr.heap.size, 0, none⟩ 1 1 [.string (bs cur)] rfl rfl (cell_one_new _ _ _) (by intro u hu; simp at hu; subst hu; rfl) (by unfold maxLen; omega) (by omega) (by simp; omega) ?_; intro v' w5 hown' hgrow _)
          go_ret2
          exact ⟨.inr ⟨htrue.out, _, rfl, by rw [← heq.out]; exact StrsAt.snoc hown'⟩, (hm.out.alloc _).grown hgrow (own_ge hst.out)⟩
end Go.Proofs.YtkajhggdgpbfeaaGreatDoor

namespace Go.Proofs.YtkajhggdgpbfeaaGreatDoor
open Go.RowKit

theorem own_base {W : World} {b b' : Nat} {e : TypeId} {z : Nat} {v : Value} {n : Nat} {xs : List Value} (h : W.ownsRow b e z v n xs) (hb : b' ≤ b) : W.ownsRow b' e z v n xs := by
  refine ⟨h.1, ?_⟩
  rcases h.2 with h0 | ⟨g, cap, cur, hv, hg, r⟩
  · exact Or.inl h0
  · exact Or.inr ⟨g, cap, cur, hv, Nat.le_trans hb hg, r⟩

/-- A row of texts that is not empty: where it lies, its cells. -/
theorem StrsAt.open {base : Nat} {W : World} {v : Value} {ws : List (List UInt8)} (h : StrsAt base W v ws) (h0 : 0 < ws.length) : ∃ g cap, v = .slice (some ⟨g, 0, none⟩) ws.length cap ∧ base ≤ g ∧ ws.length ≤ cap ∧ ∀ j s, ws[j]? = some s → W.cell? ⟨g, j, none⟩ = some (.string (bs s)) := by
  rcases h.2 with ⟨_, h1⟩ | ⟨g, cap, cur, hv, hb, hg, hc, _, hsz, htk⟩
  · omega
  · refine ⟨g, cap, hv, hb, hc, fun j s hs => ?_⟩
    have hj : j < ws.length := (List.getElem?_eq_some_iff.mp hs).1
    have h2 : (cur.toList.take (ws.length * 1))[j]? = some (.string (bs s)) := by rw [htk, List.getElem?_map, hs]; rfl
    rw [Nat.mul_one, List.getElem?_take_of_lt hj, Array.getElem?_toList] at h2
    exact cell_of_block hg j h2

theorem own_len {W : World} {b : Nat} {e : TypeId} {z : Nat} {p : Option Addr} {n c m : Nat} {xs : List Value} (h : W.ownsRow b e z (.slice p n c) m xs) : n = m := by
  rcases h.2 with ⟨h1, h2⟩ | ⟨g, cap, cur, h1, _⟩
  · simp at h1; omega
  · simp at h1; exact h1.2.1

theorem infoRLine : (Tryz.prog.info? 167).map (fun i => (i.zero, i.size, i.bytes)) = some (some (.agg #[.int .i64 0, .slice none 0 0]), 2, 32) := by kernel_rfl

/-- How the document's Lines ends at a text that is not too long. -/
def RLinesOut (w : World) (l : List UInt8) (e : Ending) (w' : World) : Prop :=
  ((∃ j : Nat, j < partsN 10 l ∧ okLine l j = false ∧ (∀ i, i < j → okLine l i = true) ∧ e = .returned (.tuple #[.slice none 0 0, .int .i64 ((j + 1 : Nat) : Int), .int .i64 6])) ∨
   ((∀ i, i < partsN 10 l → okLine l i = true) ∧ ∃ v, e = .returned (.tuple #[v, .int .i64 0, .int .i64 0]) ∧ LinesAt 167 w.heap.size w' v (linesTo l (partsN 10 l)))) ∧ Mod NoB w w'

set_option maxRecDepth 100000 in
set_option maxHeartbeats 8000000 in
theorem rlines_any (l : List UInt8) (w : World) (hl : l.length ≤ 65536) :
    Calls Tryz.prog 69 #[.string (bs l)] w (RLinesOut w l) := by
  obtain ⟨i0, hi, hz0, hz1, hz2⟩ := info_parts infoRLine
  replace hi := hide hi
  replace hz0 := hide hz0
  replace hz1 := hide hz1
  replace hz2 := hide hz2
  have hcn : l.count 10 ≤ l.length := List.count_le_length
  obtain ⟨N, hN⟩ : ∃ N, partsN 10 l = N := ⟨_, rfl⟩
  have hN6 : N ≤ 65537 := by rw [← hN]; simp only [partsN]; omega
  have hN0 : 0 < N := by rw [← hN]; simp [partsN]
  have hpl : (partsL 10 l N).length = N := by simp [partsL]
  have hwords := fun k => rwords_any (partF 10 l k)
  have hple : ∀ k, (partF 10 l k).length ≤ 1000000 := fun k => Nat.le_trans (upTo_le _ _) (Nat.le_trans (rest_len 10 l k) (by omega))
  replace hwords := hide hwords
  replace hple := hide hple
  unfold RLinesOut
  have hcut := rcut_any l 10 w (by omega)
  rw [hN] at hcut ⊢
  replace hcut := hide hcut
  replace hN := hide hN
  go_enter Tryz.func69, Tryz.ntmps69
  go_wp2_with fail
  refine hcut.out.mono ?_
  rintro e w1 ⟨v, rfl, hst, hm⟩
  obtain ⟨g, cap, rfl, hgb, hcap, hcells⟩ := hst.open (by omega)
  rw [hpl] at hcap ⊢
  replace hcells := hide hcells
  replace hst := hide hst
  replace hm := hide hm
  replace hcut := hide hcut
  go_wp2_with fail
  go_loopw [6, 7] (fun v vi wr => ∃ k : Nat, k ≤ N ∧ vi = .int .i64 k ∧ (∀ j, j < k → okLine l j = true) ∧ LinesAt 167 w.heap.size wr v (linesTo l k) ∧ StrsAt w.heap.size wr (.slice (some ⟨g, 0, none⟩) N cap) (partsL 10 l N) ∧ Mod NoB w wr) (fun _ vi _ => N - (intOf vi).toNat)
  case atStart => exact ⟨0, by omega, rfl, by omega, ⟨[], rfl, World.ownsRow_nil _ _ _ _, by simp⟩, by have := hst.out; rwa [hpl] at this, hm.out⟩
  case round =>
    clear hst hm hcells hcut
    obtain ⟨k, hk, rfl, hok, hln, hst, hm⟩ := hrel
    obtain ⟨p, n, cp, rfl⟩ := hln.slice
    obtain ⟨g', cap', hv, _, _, hcells⟩ := hst.open (by omega)
    simp only [Value.slice.injEq, Option.some.injEq, Addr.mk.injEq] at hv
    obtain ⟨⟨rfl, -⟩, -, rfl⟩ := hv
    have hsz := hm.size
    replace hok := hide hok
    replace hln := hide hln
    replace hst := hide hst
    replace hm := hide hm
    by_cases hlt : k < N
    · have hc := hcells k (partF 10 l k) (by simp [partsL, hlt])
      replace hcells := hide hcells
      go_wp2_with fail
      refine (hwords.out k _ (hple.out k)).mono ?_
      rintro e w2 ⟨(⟨hbad, rfl⟩ | ⟨hgood, u, rfl, hu⟩), hm2⟩
      · replace hbad : Hid (okLine l k = false) := hide hbad
        replace hm := hide (hm.out.trans hm2)
        clear hm2 hc
        go_wp2
        go_ret3
        exact ⟨.inl ⟨k, hlt, hbad.out, hok.out, rfl⟩, hm.out⟩
      · obtain ⟨p2, n2, c2, rfl⟩ := own_slice hu
        have hn2 := own_len hu
        have hwd : wordsOf l k = Lib.fields (upTo (partF 10 l k) 35) := rfl
        have hfn : (Lib.fields (upTo (partF 10 l k) 35)).length ≤ 65536 := by
          refine Nat.le_trans (fields_len _) (Nat.le_trans (upTo_le _ _) (Nat.le_trans (upTo_le _ _) (Nat.le_trans (rest_len 10 l k) hl)))
        have hok2 : Hid (∀ j, j < k + 1 → okLine l j = true) := hide (fun j hj => by
          rcases Nat.lt_or_ge j k with h | h
          · exact hok.out j h
          · obtain rfl : j = k := by omega
            exact hgood)
        clear hgood
        generalize Lib.fields (upTo (partF 10 l k) 35) = ws at hu hn2 hwd hfn
        subst hn2
        have hu2 : StrsAt w.heap.size w2 (.slice p2 ws.length c2) ws := own_base hu hsz
        have hln2 := hln.out.mod hm2 (fun _ h => h.elim)
        have hst2 : Hid (StrsAt w.heap.size w2 (.slice (some ⟨g, 0, none⟩) N cap) (partsL 10 l N)) := hide (ownsRow_mod hst.out hm2 (fun _ h => h.elim))
        replace hm := hide (hm.out.trans hm2)
        have hsz2 := hm2.size
        clear hm2 hu hst hln hc hcells
        replace hu2 := hide hu2
        replace hwd := hide hwd
        by_cases h0 : ws.length = 0
        · replace hln2 := hide hln2
          go_wp2
          go_roundw
          case rel =>
            refine ⟨k + 1, by omega, by go_num, hok2.out, ?_, hst2.out, hm.out⟩
            have : linesTo l (k + 1) = linesTo l k := by
              show linesTo l k ++ (if 0 < (wordsOf l k).length then _ else _) = _
              rw [hwd.out, if_neg (by omega)]
              simp
            rw [this]
            exact hln2.out
          case measure => simp [intOf]; omega
        · have hpos : 0 < ws.length := by omega
          clear h0
          obtain ⟨E, hE1, hE2, hE3⟩ := hln2
          have hEl : E.length ≤ 65537 := by
            have h1 := linesTo_len l k
            rw [← hE1] at h1
            simp at h1
            omega
          replace hE1 := hide hE1
          replace hE2 := hide hE2
          replace hE3 := hide hE3
          go_wp2_with (refine wpList_append_own _ rfl _ _ 159 rfl w.heap.size 167 i0 (.agg #[.int .i64 0, .slice none 0 0]) 2 32 Tryz.underlying159 hi.out hz0.out hz1.out hz2.out rfl (by decide) (.slice p n cp) E.length _ rfl (ownsRow_mod (S := NoB) hE2.out ((Mod.refl _ _).alloc _) (fun _ h => h.elim)) ⟨w2.heap.size, 0, none⟩ 1 1 [.int .i64 ((k : Int) + 1), .slice p2 ws.length c2] rfl rfl (cells_two_new _ _ _ _) (by intro u hu; simp at hu; rcases hu with rfl | rfl <;> rfl) (by unfold maxLen; omega) (by omega) (by simp; omega) ?_; intro v' w5 hown' hgrow _)
          go_roundw
          case rel =>
            refine ⟨k + 1, by omega, by go_num, hok2.out, ?_, hst2.out.grown hE2.out (by decide) hgrow, (hm.out.alloc _).grown hgrow (own_ge hE2.out)⟩
            have hln3 : linesTo l (k + 1) = linesTo l k ++ [(k + 1, ws)] := by
              show linesTo l k ++ (if 0 < (wordsOf l k).length then _ else _) = _
              rw [hwd.out, if_pos hpos]
            rw [hln3]
            exact LinesAt.snoc hE1.out (fun x hx => (hE3.out x hx).grown hE2.out (by decide) hgrow) (N := k + 1) (hu2.out.grown hE2.out (by decide) hgrow) hown'
          case measure => simp [intOf]; omega
    · obtain rfl : k = N := by omega
      go_wp2
      go_ret3
      exact ⟨.inr ⟨hok.out, _, rfl, hln.out⟩, hm.out⟩
end Go.Proofs.YtkajhggdgpbfeaaGreatDoor

namespace Go.Proofs.YtkajhggdgpbfeaaGreatDoor
open Go.RowKit

theorem pairs_at {α : Type} (f g : α → Value) (E : List α) : ∀ j, (E.flatMap fun x => [f x, g x])[2 * j]? = E[j]?.map f ∧ (E.flatMap fun x => [f x, g x])[2 * j + 1]? = E[j]?.map g := by
  induction E with
  | nil => intro j; simp
  | cons x E ih =>
    intro j
    cases j with
    | zero => simp
    | succ j =>
      have := ih j
      rw [show 2 * (j + 1) = 2 * j + 1 + 1 by omega]
      simpa using this

/-- A row of lines: where it lies, what its cells are. -/
theorem LinesAt.open {T base : Nat} {W : World} {v : Value} {L : List (Nat × List (List UInt8))} (h : LinesAt T base W v L) : ∃ p cap, v = .slice p L.length cap ∧
    ∀ j x, L[j]? = some x → ∃ g u c, p = some ⟨g, 0, none⟩ ∧ W.cell? ⟨g, j * 2, none⟩ = some (.int .i64 x.1) ∧ W.cell? ⟨g, j * 2 + 1, none⟩ = some (.slice u x.2.length c) ∧ StrsAt base W (.slice u x.2.length c) x.2 := by
  obtain ⟨E, h1, h2, h3⟩ := h
  have hl : E.length = L.length := by rw [← h1]; simp
  rcases h2.2 with ⟨rfl, h0⟩ | ⟨g, cap, cur, rfl, hb, hg, hc, _, hsz, htk⟩
  · refine ⟨none, 0, by rw [← hl, h0], fun j x hx => ?_⟩
    have : j < L.length := (List.getElem?_eq_some_iff.mp hx).1
    omega
  · refine ⟨_, cap, by rw [hl], fun j x hx => ?_⟩
    rw [← h1, List.getElem?_map] at hx
    cases hE : E[j]? with
    | none => rw [hE] at hx; cases hx
    | some y =>
      rw [hE] at hx
      simp at hx
      subst hx
      have hj : j < E.length := (List.getElem?_eq_some_iff.mp hE).1
      have hs := h3 y (List.mem_of_getElem? hE)
      obtain ⟨u, n, c, hu⟩ := own_slice hs
      have hn : n = y.1.2.length := by rw [hu] at hs; exact own_len hs
      subst hn
      obtain ⟨p1, p2⟩ := pairs_at (fun x : (Nat × List (List UInt8)) × Value => .int .i64 x.1.1) (fun x => x.2) E j
      rw [hE] at p1 p2
      rw [← htk, List.getElem?_take_of_lt (by omega), Array.getElem?_toList] at p1 p2
      refine ⟨g, u, c, rfl, cell_of_block hg _ (by rw [Nat.mul_comm]; exact p1), cell_of_block hg _ (by rw [Nat.mul_comm]; rw [p2]; simp [hu]), by rw [← hu]; exact hs⟩

theorem words_len (l : List UInt8) (k : Nat) : (wordsOf l k).length ≤ l.length :=
  Nat.le_trans (fields_len _) (Nat.le_trans (upTo_le _ _) (Nat.le_trans (upTo_le _ _) (rest_len 10 l k)))

end Go.Proofs.YtkajhggdgpbfeaaGreatDoor

