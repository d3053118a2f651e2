/- The document's answer of chapter 5: its texts between a byte. -/
import Derived.Test.YthbaoocnnfnhnaaDoorLxE
namespace Go.Proofs.YthbaoocnnfnhnaaDoor
open Go.RowKit

def partsL (c : UInt8) (l : List UInt8) (k : Nat) : List (List UInt8) := (List.range k).map (partF c l)
theorem partsL_succ (c : UInt8) (l : List UInt8) (k : Nat) : partsL c l (k + 1) = partsL c l k ++ [partF c l k] := by simp [partsL, List.range_succ]

theorem bs_slice (l : List UInt8) (f i : Nat) : (bs l).extract f i = bs ((l.drop f).take (i - f)) := by
  apply ByteArray.ext
  simp [ByteArray.data_extract]

theorem upTo_at {l : List UInt8} {c : UInt8} {n : Nat} (h : l[n]? = some c) (hn : c ∉ l.take n) : upTo l c = l.take n := by
  induction l generalizing n with
  | nil => simp at h
  | cons b l ih =>
    cases n with
    | zero => simp at h; subst h; simp [upTo]
    | succ n =>
      simp at h hn
      have hb : (b != c) = true := by simpa using fun e => hn.1 e.symm
      unfold upTo
      rw [List.takeWhile_cons, if_pos hb, List.take_succ_cons]
      congr 1
      exact ih h hn.2

theorem StrsAt.strs {base : Nat} {W : World} {v : Value} {ws : List (List UInt8)} (h : StrsAt base W v ws) : W.ownsRow base 9 1 v ws.length (ws.map fun s => .string (bs s)) := h

theorem infoStr : (Tryd.prog.info? 9).map (fun i => (i.zero, i.size, i.bytes)) = some (some (.string ⟨#[]⟩), 1, 16) := by kernel_rfl

set_option maxHeartbeats 8000000 in
set_option maxRecDepth 100000 in
theorem rcut_any (l : List UInt8) (c : UInt8) (w : World) (hl : l.length ≤ 1000000) :
    Calls Tryd.prog 27 #[.string (bs l), .int .u8 (c.toNat : Nat)] w fun e w' => ∃ v, e = .returned v ∧ StrsAt w.heap.size w' v (partsL c l (partsN c l)) ∧ Mod NoB w w' := by
  obtain ⟨i0, hi, hz0, hz1, hz2⟩ := info_parts infoStr
  replace hi := hide hi
  replace hz0 := hide hz0
  replace hz1 := hide hz1
  replace hz2 := hide hz2
  go_enter Tryd.func27, Tryd.ntmps27
  go_wp2_with fail
  go_loopw [5, 6, 7] (fun v vf vi wr => ∃ (k f i : Nat), vf = .int .i64 f ∧ vi = .int .i64 i ∧ f ≤ i ∧ i ≤ l.length ∧ restF c l k = l.drop f ∧ c ∉ (l.drop f).take (i - f) ∧ (l.take f).count c = k ∧ StrsAt w.heap.size wr v (partsL c l k) ∧ Mod NoB w wr) (fun _ _ vi _ => l.length - (intOf vi).toNat)
  case atStart => exact ⟨0, 0, 0, rfl, rfl, by omega, by omega, rfl, by simp, by simp, World.ownsRow_nil _ _ _ _, Mod.refl _ _⟩
  case round =>
    obtain ⟨k, f, i, rfl, rfl, hfi, hil, hre, hno, hct, hst, hm⟩ := hrel
    have hkf : k ≤ l.length := by have := List.count_le_length (a := c) (l := l.take f); simp at this; omega
    have hpl : (partsL c l k).length = k := by simp [partsL]
    replace hre := hide hre
    replace hct := hide hct
    have hsz := hm.size
    by_cases hlt : i < l.length
    · obtain ⟨b, hb⟩ : ∃ b, l[i]? = some b := ⟨l[i], by simp [hlt]⟩
      have hbn : (b.toNat : Int) < 256 := by have := b.toNat_lt; omega
      by_cases hbc : b = c
      · subst hbc
        obtain ⟨p, n, cp, rfl⟩ := own_slice hst
        have hbi : ∀ h : i < (bs l).size, (bs l)[i]'h = b := fun h => by
          have := List.getElem?_eq_some_iff.mp hb
          exact this.2
        have hdr : l.drop (i + 1) = (l.drop f).drop ((i - f) + 1) := by rw [List.drop_drop]; congr 1; omega
        have hat : (l.drop f)[i - f]? = some b := by rw [List.getElem?_drop, ← hb]; congr 1; omega
        have hpk : partF b l k = (l.drop f).take (i - f) := by rw [partF, hre.out]; exact upTo_at hat hno
        have hlen : ((l.drop f).take (i - f)).length = i - f := by simp; omega
        have hre2 : Hid (restF b l (k + 1) = l.drop (i + 1)) := hide (by
          show (restF b l k).drop ((partF b l k).length + 1) = _
          rw [hpk, hlen, hre.out, hdr])
        have hct2 : Hid ((l.take (i + 1)).count b = k + 1) := hide (by
          have h1 : l.take (i + 1) = l.take f ++ ((l.drop f).take (i - f) ++ [b]) := by
            have h2 : l.take (i + 1) = l.take i ++ [b] := by rw [List.take_add_one, hb]; rfl
            have h3 : l.take i = l.take f ++ (l.drop f).take (i - f) := by
              have : i = f + (i - f) := by omega
              conv => lhs; rw [this]
              exact List.take_add
            rw [h2, h3, List.append_assoc]
          rw [h1, List.count_append, List.count_append, hct.out, List.count_eq_zero.mpr hno]
          simp)
        have hsl : (bs l).extract f i = bs (partF b l k) := by rw [bs_slice, hpk]
        have hps := partsL_succ b l k
        generalize partF b l k = pt at hsl hps hpk
        clear hre hct hno hdr hat hlen hpk
        replace hps := hide hps
        replace hst := hide hst
        replace hm := hide hm
        replace hpl := hide hpl
        go_wp2_with (refine wpList_append_own _ rfl (.tmp 19) (.tmp 24) 34 rfl w.heap.size 9 i0 (.string ⟨#[]⟩) 1 16 Tryd.underlying34 hi.out hz0.out hz1.out hz2.out rfl (by decide) (.slice p n cp) (partsL b l k).length _ rfl (ownsRow_mod (S := NoB) hst.out ((Mod.refl _ _).alloc _) (fun _ h => h.elim)) ⟨wr.heap.size, 0, none⟩ 1 1 [.string (bs pt)] rfl rfl (cell_one_new _ _ _) (by intro u hu; simp at hu; subst hu; rfl) (by rw [hpl.out]; unfold maxLen; omega) (by rw [hpl.out]; omega) (by simp; omega) ?_; intro v' w5 hown' hgrow _)
        go_roundw
        case rel =>
          refine ⟨k + 1, i + 1, i + 1, by go_num, by go_num, by omega, by omega, hre2.out, by simp, hct2.out, ?_, (hm.out.alloc _).grown hgrow (own_ge hst.out)⟩
          rw [hps.out]
          show w5.ownsRow _ _ _ _ _ _
          simpa using hown'
        case measure => simp [intOf]; omega
      · obtain ⟨p, n, cp, rfl⟩ := own_slice hst
        have hbi : ∀ h : i < (bs l).size, (bs l)[i]'h = b := fun h => by
          have := List.getElem?_eq_some_iff.mp hb
          exact this.2
        have hne : ((b.toNat : Int) == (c.toNat : Int)) = false := by
          simp
          intro h
          exact hbc (UInt8.toNat_inj.mp (by omega))
        have hne2 : ¬ (b.toNat : Int) = (c.toNat : Int) := by simpa using hne
        have hat : (l.drop f)[i - f]? = some b := by rw [List.getElem?_drop, ← hb]; congr 1; omega
        have hno2 : Hid (c ∉ (l.drop f).take (i + 1 - f)) := hide (by
          rw [show i + 1 - f = (i - f) + 1 by omega, List.take_add_one, hat]
          simp only [Option.toList_some, List.mem_append, List.mem_singleton]
          rintro (h | h)
          · exact hno h
          · exact hbc h.symm)
        clear hno hat hbc
        replace hst := hide hst
        replace hm := hide hm
        go_wp2
        all_goals first
          | (exfalso; omega)
          | (go_roundw
             case rel => exact ⟨k, f, i + 1, by go_num, by go_num, by omega, by omega, hre.out, hno2.out, hct.out, hst.out, hm.out⟩
             case measure => simp [intOf]; omega)
    · obtain rfl : i = l.length := by omega
      obtain ⟨p, n, cp, rfl⟩ := own_slice hst
      have hno3 : c ∉ l.drop f := by
        have h := hno
        rwa [List.take_of_length_le (by simp)] at h
      have hpk : partF c l k = l.drop f := by rw [partF, hre.out]; exact upTo_all hno3
      have hN : partsN c l = k + 1 := by
        unfold partsN
        have h1 : l.count c = (l.take f).count c + (l.drop f).count c := by
          conv => lhs; rw [← List.take_append_drop f l]
          exact List.count_append
        rw [h1, hct.out, List.count_eq_zero.mpr hno3]
      have hsl : (bs l).extract f l.length = bs (partF c l k) := by rw [bs_drop, hpk]
      have hps := partsL_succ c l k
      rw [← hN] at hps
      generalize partF c l k = pt at hsl hps hpk
      clear hre hct hno hno3 hpk hN
      replace hps := hide hps
      replace hst := hide hst
      replace hm := hide hm
      replace hpl := hide hpl
      go_wp2_with (refine wpList_append_own _ rfl _ _ 34 rfl w.heap.size 9 i0 (.string ⟨#[]⟩) 1 16 Tryd.underlying34 hi.out hz0.out hz1.out hz2.out rfl (by decide) (.slice p n cp) (partsL c l k).length _ rfl (ownsRow_mod (S := NoB) hst.out ((Mod.refl _ _).alloc _) (fun _ h => h.elim)) ⟨wr.heap.size, 0, none⟩ 1 1 [.string (bs pt)] rfl rfl (cell_one_new _ _ _) (by intro u hu; simp at hu; subst hu; rfl) (by rw [hpl.out]; unfold maxLen; omega) (by rw [hpl.out]; omega) (by simp; omega) ?_; intro v' w5 hown' hgrow _)
      go_ret
      refine ⟨_, rfl, ?_, (hm.out.alloc _).grown hgrow (own_ge hst.out)⟩
      rw [hps.out]
      show w5.ownsRow _ _ _ _ _ _
      simpa using hown'
end Go.Proofs.YthbaoocnnfnhnaaDoor
