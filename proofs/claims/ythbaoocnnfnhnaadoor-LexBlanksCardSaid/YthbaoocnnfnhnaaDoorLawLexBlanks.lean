/- Words are found again, however many blanks, tabs and remarks stand between and behind them. No condition. -/
import Derived.Test.YthbaoocnnfnhnaaDoorLxV
import Derived.Test.YthbaoocnnfnhnaaDoorLxJ2
import Derived.Test.YthbaoocnnfnhnaaDoorKitQ
namespace Go.Proofs.YthbaoocnnfnhnaaDoor.lexBlanks
open Go.ChangeShapes Go.WideShapes Go.ChangeAt Go.RowKit Go.Proofs.YthbaoocnnfnhnaaDoor
set_option linter.unusedVariables false

theorem nl_len : ∀ (L : List (List UInt8)) (s : List UInt8), (nl (L ++ [s])).length ≤ (nl L).length + 1 + s.length
  | [], s => by simp [nl]
  | [t], s => by simp [nl]; omega
  | t :: u :: L, s => by
    have ih := nl_len (u :: L) s
    show (nl (t :: ((u :: L) ++ [s]))).length ≤ (nl (t :: u :: L)).length + 1 + s.length
    rw [nl_cons (by simp), nl_cons (by simp)]
    simp only [List.length_append, List.length_cons] at ih ⊢
    omega
theorem take_text (l : List Int) (j : Nat) (h : j < l.length) : (l.take (j + 1)).map textOf = (l.take j).map textOf ++ [textOf (l.getD j 0)] := by
  rw [List.take_add_one]
  rw [List.map_append]
  simp [List.getD, h]
theorem text_dig {x : Int} (h0 : 0 ≤ x) (h1 : x ≤ 1000000000) : textOf x ≠ [] ∧ (textOf x).all isDig = true := by
  refine ⟨text_ne h0 h1, ?_⟩
  have h := numR_text h0 h1
  unfold numR at h
  split at h
  · rename_i hn
    unfold numB at hn
    simp only [Bool.and_eq_true] at hn
    exact hn.1.2
  · simp at h

set_option maxRecDepth 100000 in
set_option maxHeartbeats 32000000 in
theorem walk (x : Option Addr) (n cap : Nat) (R : Nat → List Int) (y : Option Addr) (nb cb : Nat) (Z : Nat → Int) (w : World) (hn : n ≤ cap) (hcap : cap ≤ 9223372036854775807) (hR : RowsAt .u16 w x n R) (hnb : nb ≤ cb) (hcb : cb ≤ 9223372036854775807) (hZ : IntsAt .u8 w y nb Z) (hwf : ∀ j, j < nb → (Lit.int .u8 (Z j)).wf = true) (hL : LaidN w) :
    Calls Tryd.prog 8 #[.slice x n cap, .slice y nb cb] w fun e w' => e = .returned (.bool true) ∧ Mod NoB w w' := by
  have hb0 := heap_alloc_new w (.cells #[.slice y nb cb] 47)
  obtain ⟨W0, hW0⟩ : ∃ W0, w.alloc (.cells #[.slice y nb cb] 47) = W0 := ⟨_, rfl⟩
  have hmw : Mod NoB w W0 := by rw [← hW0]; exact (Mod.refl _ _).alloc _
  have hsz0 : W0.heap.size = w.heap.size + 1 := by rw [← hW0]; simp
  rw [hW0] at hb0
  have b0 := cell_of_block hb0 0 (v := .slice y nb cb) rfl
  replace hsz0 := hide hsz0
  replace hL := hide hL
  replace hmw := hide hmw
  replace hW0 := hide hW0
  replace hb0 := hide hb0
  replace hR := hide hR
  replace hZ := hide hZ
  replace hwf := hide hwf
  go_enter Tryd.func8, Tryd.ntmps8
  go_upto_region 1 with (fail)
  rw [hW0.out]
  by_cases h20 : 20 < n
  · have hd : decide ((20 : Int) < (n : Int)) = true := by simp; omega
    go_wp2_with fail
    refine (alive_any _ (hL.out.mod hmw.out).s).mono ?_
    rintro e wz ⟨rfl, hmz⟩
    replace hmw := hide (hmw.out.trans hmz)
    clear hmz
    go_wp2
    go_ret
    exact ⟨rfl, hmw.out⟩
  · have hd : decide ((20 : Int) < (n : Int)) = false := by simp; omega
    by_cases h100 : 100 < nb
    · have hd2 : decide ((100 : Int) < (nb : Int)) = true := by simp; omega
      go_wp2_with fail
      refine (alive_any _ (hL.out.mod hmw.out).s).mono ?_
      rintro e wz ⟨rfl, hmz⟩
      replace hmw := hide (hmw.out.trans hmz)
      clear hmz
      go_wp2
      go_ret
      exact ⟨rfl, hmw.out⟩
    · have hd2 : decide ((100 : Int) < (nb : Int)) = false := by simp; omega
      have lt0 := lt_of_cell b0
      go_wp2_with fail
      obtain ⟨bA, hbA⟩ : ∃ bA, W0.heap.size = bA := ⟨_, rfl⟩
      obtain ⟨W1, hW1⟩ : ∃ W1, W0.alloc (.cells #[.int .i64 0] 3) = W1 := ⟨_, rfl⟩
      have hA1 : W1.heap[bA]? = some (.cells #[.int .i64 0] 3 (0, 0)) := by rw [← hW1, ← hbA]; exact heap_alloc_new _ _
      have hm01 : Mod NoB W0 W1 := by rw [← hW1]; exact (Mod.refl _ _).alloc _
      have hB1 := hm01.heap hb0.out id
      rw [hbA, hW1]
      replace hmw := hide (hmw.out.trans hm01)
      have hwA : w.heap.size < bA := by have := hsz0.out; omega
      replace hbA := hide hbA
      replace hW1 := hide hW1
      replace hA1 := hide hA1
      replace hB1 := hide hB1
      clear hm01 b0 lt0
      -- what the closure and the texts come to, in any world behind W1 in which only bA has turned
      have hblank := fun (wc : World) (m : Nat) (hmc : Mod (· = bA) W1 wc) (hA : wc.heap[bA]? = some (.cells #[.int .i64 (m : Int)] 3 (0, 0))) (hm : m ≤ 100000) =>
        blank_any bA w.heap.size (by omega) y nb cb Z m wc hA (hmc.heap hB1.out (by omega)) hm (by omega) (fun w' hm' => fun i hi => by
          obtain ⟨b, off, h1, h2, h3⟩ := hZ.out i hi
          have hm2 : Mod (· = bA) W1 w' := hmc.trans hm'
          refine ⟨b, off, h1, by have := hmw.out.size; have := hm2.size; omega, fun j hj => hm2.cellAt (by omega) (hmw.out.cellAt id (h3 j hj))⟩) hwf.out
      replace hblank := hide hblank
      have hlaid := fun (wc : World) (hmc : Mod (· = bA) W1 wc) => hL.out.mod (hmw.out.into hmc (fun b e => Or.inr (by omega)))
      replace hlaid := hide hlaid
      go_loopw [5, 34] (fun vt vi wr => ∃ (i m : Nat) (D : List (List UInt8)), i ≤ n ∧ vi = .int .i64 i ∧ D.length = i ∧ AllDone R D ∧ vt = .string (bs (nl D)) ∧ wr.heap[bA]? = some (.cells #[.int .i64 (m : Int)] 3 (0, 0)) ∧ m ≤ i * 22 ∧ (nl D).length ≤ i * 300 ∧ (∀ j, j < i → (R j).length ≤ 20) ∧ Mod (· = bA) W1 wr) (fun _ vi _ => n - (intOf vi).toNat)
      case atStart => exact ⟨0, 0, [], by omega, rfl, rfl, fun j hj => by simp at hj, rfl, hA1.out, by omega, by simp [nl], by omega, Mod.refl _ _⟩
      case round =>
        obtain ⟨i, m, D, hin, rfl, hDl, hDa, rfl, hAr, hmi, hDlen, hR20, hmr⟩ := hrel
        by_cases hlt : i < n
        · obtain ⟨b, off, q, c, rfl, hb, hrow, hlc, hcc, hel⟩ := hR.out i hlt
          have hrr : wr.cell? ⟨b, off + i, none⟩ = some (.slice q (R i).length c) := hmr.cellAt (by omega) (hmw.out.cellAt id hrow)
          obtain ⟨len, hlen⟩ : ∃ len, (R i).length = len := ⟨_, rfl⟩
          rw [hlen] at hrr hlc
          have hel' := hide hel
          replace hrow := hide hrow
          replace hlen := hide hlen
          have hi0 : (0 : Int) ≤ (i : Int) := by omega
          have hi1 : (i : Int) < (n : Int) := by omega
          clear hel
          replace hDa := hide hDa
          replace hR20 := hide hR20
          by_cases hl20 : 20 < len
          · have hd3 : decide ((20 : Int) < (len : Int)) = true := by simp; omega
            have hmw2 : Hid (Mod NoB w wr) := hide (hmw.out.into hmr (fun b e => Or.inr (by omega)))
            replace hmr := hide hmr
            replace hAr := hide hAr
            replace hmw := hmw2
            go_wp2_with fail
            refine (alive_any _ (hL.out.mod hmw.out).s).mono ?_
            rintro e wz ⟨rfl, hmz⟩
            replace hmw := hide (hmw.out.trans hmz)
            clear hmz
            go_wp2
            go_ret
            exact ⟨rfl, hmw.out⟩
          · have hd3 : decide ((20 : Int) < (len : Int)) = false := by simp; omega
            have hbeg := nl_begin D i hDl
            by_cases h0 : i = 0
            · rw [if_pos h0] at hbeg
              have hgi : decide ((0 : Int) < (i : Int)) = false := by simp; omega
              have hgn : decide (0 < i) = false := by simp; omega
              replace h0 := hide h0
              replace hbeg := hide hbeg
              go_wp2_with fail
              clear hrr
              obtain ⟨wo, hwo⟩ : ∃ wo : World, wo = wr := ⟨_, rfl⟩
              rw [← hwo] at hAr hmr ⊢
              clear hwo
              replace hAr := hide hAr
              replace hmr := hide hmr
              go_loopw [5, 49] (fun vt vj wr => ∃ (j m' : Nat) (cur : List UInt8), j ≤ len ∧ vj = .int .i64 j ∧ Cur cur (((R i).take j).map textOf) ∧ vt = .string (bs (nl (D ++ [cur]))) ∧ wr.heap[bA]? = some (.cells #[.int .i64 (m' : Int)] 3 (0, 0)) ∧ m' ≤ i * 22 + j ∧ cur.length ≤ 14 * j ∧ Mod (· = bA) W1 wr) (fun _ vj _ => len - (intOf vj).toNat)
              case atStart => exact ⟨0, m, [], by omega, rfl, Cur.nil, (by rw [← hbeg.out]), hAr.out, by omega, by simp, hmr.out⟩
              case round =>
                obtain ⟨j, m', cur, hjl, rfl, hcur, rfl, hA2, hm2, hcl, hmr2⟩ := hrel
                have hnl := nl_len D cur
                replace hcur := hide hcur
                by_cases hlt2 : j < len
                · obtain ⟨d, o, rfl, hd, hcell, hwz⟩ := hel'.out j (by rw [hlen.out]; exact hlt2)
                  replace hcell := hmr2.cellAt (by omega) (hmw.out.cellAt id hcell)
                  have htk := take_text (R i) j (by rw [hlen.out]; exact hlt2)
                  generalize (R i).getD j 0 = z at hcell hwz htk
                  obtain ⟨z0, z1⟩ := bounds_u16 hwz
                  clear hwz
                  have hzw : IntKind.i64.wrap z = z := IntWalk.i64_in _ (by omega)
                  have hj0 : (0 : Int) ≤ (j : Int) := by omega
                  have hj1 : (j : Int) < (len : Int) := by omega
                  have lcell := lt_of_cell hcell
                  replace htk := hide htk
                  replace hA2 := hide hA2
                  replace hmr2 := hide hmr2
                  go_wp2_with fail
                  refine (hblank.out wr m' hmr2.out hA2.out (by omega)).mono ?_
                  rintro e w1 ⟨⟨s, hs, rfl⟩, hA3, hmb⟩
                  have hL1 := hlaid.out w1 (hmr2.out.trans hmb)
                  replace hmr2 := hide (hmr2.out.trans hmb)
                  replace hA3 := hide hA3
                  have hsl := hs.len
                  replace hs := hide hs
                  clear hA2 hmb hcell lcell
                  go_wp2_with fail
                  refine (text_any z (by omega) (by omega) w1 hL1).mono ?_
                  rintro e w2 ⟨rfl, hmt⟩
                  have hA4 := hide (hmt.heap hA3.out id)
                  replace hmr2 := hide (hmr2.out.trans (hmt.mono fun _ _ f => f.elim))
                  have htl := text_len z
                  clear hA3 hmt hL1
                  go_wp2_with fail
                  go_roundw
                  case rel =>
                    refine ⟨j + 1, m' + 1, cur ++ (s ++ textOf z), by omega, by go_num, ?_, ?_, ?_, by omega, ?_, hmr2.out⟩
                    · rw [htk.out]; exact hcur.out.word hs.out (text_dig z0 (by omega)).1 (text_dig z0 (by omega)).2
                    · rw [bs_app, bs_app, nl_more]
                    · have := hA4.out; rwa [show ((m' : Int) + 1) = ((m' + 1 : Nat) : Int) by omega] at this
                    · simp; omega
                  case measure => simp [intOf]; omega
                · obtain rfl : j = len := by omega
                  have hcw : Cur cur ((R i).map textOf) := by have := hcur.out; rw [← hlen.out, List.take_length] at this; exact this
                  replace hcw := hide hcw
                  clear hcur hel'
                  rcases Nat.mod_two_eq_zero_or_one i with hi2 | hi2
                  · have hrem : ((i : Nat) : Int).tmod 2 = 0 := by rw [show ((i : Nat) : Int).tmod 2 = ((i % 2 : Nat) : Int) from Int.ofNat_tmod i 2, hi2]; rfl
                    go_wp2_with fail
                    go_roundw
                    case rel =>
                      refine ⟨i + 1, m', D ++ [cur], by omega, by go_num, by simp [hDl], hDa.out.snoc (by rw [hDl]; exact hcw.out.done), rfl, hA2, by omega, by omega, ?_, hmr2⟩
                      intro q hq
                      by_cases hqi : q < i
                      · exact hR20.out q hqi
                      · obtain rfl : q = i := by omega
                        rw [hlen.out]; omega
                    case measure => simp [intOf]; omega
                  · have hrem : ((i : Nat) : Int).tmod 2 = 1 := by rw [show ((i : Nat) : Int).tmod 2 = ((i % 2 : Nat) : Int) from Int.ofNat_tmod i 2, hi2]; rfl
                    replace hA2 := hide hA2
                    replace hmr2 := hide hmr2
                    go_wp2_with fail
                    refine (hblank.out wr m' hmr2.out hA2.out (by omega)).mono ?_
                    rintro e w1 ⟨⟨s, hs, rfl⟩, hA3, hmb⟩
                    replace hmr2 := hide (hmr2.out.trans hmb)
                    replace hA3 := hide hA3
                    have hsl := hs.len
                    replace hs := hide hs
                    have hnl2 := nl_len D (cur ++ (s ++ remarkL))
                    clear hA2 hmb
                    go_wp2_with fail
                    go_roundw
                    case rel =>
                      refine ⟨i + 1, m' + 1, D ++ [cur ++ (s ++ remarkL)], by omega, by go_num, by simp [hDl], hDa.out.snoc (by rw [hDl]; exact hcw.out.remark hs.out), ?_, ?_, by omega, ?_, ?_, hmr2.out⟩
                      · show Value.string (bs _ ++ (bs _ ++ bs remarkL)) = _
                        rw [bs_app, bs_app, nl_more]
                      · have := hA3.out; rwa [show ((m' : Int) + 1) = ((m' + 1 : Nat) : Int) by omega] at this
                      · have hrl : remarkL.length = 11 := rfl
                        simp only [List.length_append] at hnl2
                        omega
                      intro q hq
                      by_cases hqi : q < i
                      · exact hR20.out q hqi
                      · obtain rfl : q = i := by omega
                        rw [hlen.out]; omega
                    case measure => simp [intOf]; omega
            · rw [if_neg h0] at hbeg
              have hgi : decide ((0 : Int) < (i : Int)) = true := by simp; omega
              have hgn : decide (0 < i) = true := by simp; omega
              replace h0 := hide h0
              replace hbeg := hide hbeg
              go_wp2_with fail
              clear hrr
              obtain ⟨wo, hwo⟩ : ∃ wo : World, wo = wr := ⟨_, rfl⟩
              rw [← hwo] at hAr hmr ⊢
              clear hwo
              replace hAr := hide hAr
              replace hmr := hide hmr
              go_loopw [5, 49] (fun vt vj wr => ∃ (j m' : Nat) (cur : List UInt8), j ≤ len ∧ vj = .int .i64 j ∧ Cur cur (((R i).take j).map textOf) ∧ vt = .string (bs (nl (D ++ [cur]))) ∧ wr.heap[bA]? = some (.cells #[.int .i64 (m' : Int)] 3 (0, 0)) ∧ m' ≤ i * 22 + j ∧ cur.length ≤ 14 * j ∧ Mod (· = bA) W1 wr) (fun _ vj _ => len - (intOf vj).toNat)
              case atStart => exact ⟨0, m, [], by omega, rfl, Cur.nil, (congrArg Value.string ((bs_app (nl D) [10]).trans (congrArg bs hbeg.out))), hAr.out, by omega, by simp, hmr.out⟩
              case round =>
                obtain ⟨j, m', cur, hjl, rfl, hcur, rfl, hA2, hm2, hcl, hmr2⟩ := hrel
                have hnl := nl_len D cur
                replace hcur := hide hcur
                by_cases hlt2 : j < len
                · obtain ⟨d, o, rfl, hd, hcell, hwz⟩ := hel'.out j (by rw [hlen.out]; exact hlt2)
                  replace hcell := hmr2.cellAt (by omega) (hmw.out.cellAt id hcell)
                  have htk := take_text (R i) j (by rw [hlen.out]; exact hlt2)
                  generalize (R i).getD j 0 = z at hcell hwz htk
                  obtain ⟨z0, z1⟩ := bounds_u16 hwz
                  clear hwz
                  have hzw : IntKind.i64.wrap z = z := IntWalk.i64_in _ (by omega)
                  have hj0 : (0 : Int) ≤ (j : Int) := by omega
                  have hj1 : (j : Int) < (len : Int) := by omega
                  have lcell := lt_of_cell hcell
                  replace htk := hide htk
                  replace hA2 := hide hA2
                  replace hmr2 := hide hmr2
                  go_wp2_with fail
                  refine (hblank.out wr m' hmr2.out hA2.out (by omega)).mono ?_
                  rintro e w1 ⟨⟨s, hs, rfl⟩, hA3, hmb⟩
                  have hL1 := hlaid.out w1 (hmr2.out.trans hmb)
                  replace hmr2 := hide (hmr2.out.trans hmb)
                  replace hA3 := hide hA3
                  have hsl := hs.len
                  replace hs := hide hs
                  clear hA2 hmb hcell lcell
                  go_wp2_with fail
                  refine (text_any z (by omega) (by omega) w1 hL1).mono ?_
                  rintro e w2 ⟨rfl, hmt⟩
                  have hA4 := hide (hmt.heap hA3.out id)
                  replace hmr2 := hide (hmr2.out.trans (hmt.mono fun _ _ f => f.elim))
                  have htl := text_len z
                  clear hA3 hmt hL1
                  go_wp2_with fail
                  go_roundw
                  case rel =>
                    refine ⟨j + 1, m' + 1, cur ++ (s ++ textOf z), by omega, by go_num, ?_, ?_, ?_, by omega, ?_, hmr2.out⟩
                    · rw [htk.out]; exact hcur.out.word hs.out (text_dig z0 (by omega)).1 (text_dig z0 (by omega)).2
                    · rw [bs_app, bs_app, nl_more]
                    · have := hA4.out; rwa [show ((m' : Int) + 1) = ((m' + 1 : Nat) : Int) by omega] at this
                    · simp; omega
                  case measure => simp [intOf]; omega
                · obtain rfl : j = len := by omega
                  have hcw : Cur cur ((R i).map textOf) := by have := hcur.out; rw [← hlen.out, List.take_length] at this; exact this
                  replace hcw := hide hcw
                  clear hcur hel'
                  rcases Nat.mod_two_eq_zero_or_one i with hi2 | hi2
                  · have hrem : ((i : Nat) : Int).tmod 2 = 0 := by rw [show ((i : Nat) : Int).tmod 2 = ((i % 2 : Nat) : Int) from Int.ofNat_tmod i 2, hi2]; rfl
                    go_wp2_with fail
                    go_roundw
                    case rel =>
                      refine ⟨i + 1, m', D ++ [cur], by omega, by go_num, by simp [hDl], hDa.out.snoc (by rw [hDl]; exact hcw.out.done), rfl, hA2, by omega, by omega, ?_, hmr2⟩
                      intro q hq
                      by_cases hqi : q < i
                      · exact hR20.out q hqi
                      · obtain rfl : q = i := by omega
                        rw [hlen.out]; omega
                    case measure => simp [intOf]; omega
                  · have hrem : ((i : Nat) : Int).tmod 2 = 1 := by rw [show ((i : Nat) : Int).tmod 2 = ((i % 2 : Nat) : Int) from Int.ofNat_tmod i 2, hi2]; rfl
                    replace hA2 := hide hA2
                    replace hmr2 := hide hmr2
                    go_wp2_with fail
                    refine (hblank.out wr m' hmr2.out hA2.out (by omega)).mono ?_
                    rintro e w1 ⟨⟨s, hs, rfl⟩, hA3, hmb⟩
                    replace hmr2 := hide (hmr2.out.trans hmb)
                    replace hA3 := hide hA3
                    have hsl := hs.len
                    replace hs := hide hs
                    have hnl2 := nl_len D (cur ++ (s ++ remarkL))
                    clear hA2 hmb
                    go_wp2_with fail
                    go_roundw
                    case rel =>
                      refine ⟨i + 1, m' + 1, D ++ [cur ++ (s ++ remarkL)], by omega, by go_num, by simp [hDl], hDa.out.snoc (by rw [hDl]; exact hcw.out.remark hs.out), ?_, ?_, by omega, ?_, ?_, hmr2.out⟩
                      · show Value.string (bs _ ++ (bs _ ++ bs remarkL)) = _
                        rw [bs_app, bs_app, nl_more]
                      · have := hA3.out; rwa [show ((m' : Int) + 1) = ((m' + 1 : Nat) : Int) by omega] at this
                      · have hrl : remarkL.length = 11 := rfl
                        simp only [List.length_append] at hnl2
                        omega
                      intro q hq
                      by_cases hqi : q < i
                      · exact hR20.out q hqi
                      · obtain rfl : q = i := by omega
                        rw [hlen.out]; omega
                    case measure => simp [intOf]; omega
        · skip
          obtain rfl : i = n := by omega
          replace hDa := hide hDa
          replace hR20 := hide hR20
          have hLn := hlaid.out wr hmr
          have hl0 := lines_walk (nl D) (by omega) wr (fun W hm => hLn.s.mod hm)
          replace hl0 := hide hl0
          replace hmr := hide hmr
          have hD6 : decide ((60000 : Int) < ((nl D).length : Int)) = false := by simp; omega
          go_wp2_with fail
          refine hl0.out.mono ?_
          rintro e w1 ⟨(⟨j, h1, h2, _⟩ | ⟨_, v, rfl, hv⟩), hm⟩
          · rw [(done_text0 hDa.out).1 j h1] at h2
            cases h2
          · rw [(done_text0 hDa.out).2] at hv
            obtain ⟨p, cap, rfl, hc⟩ := hv.open
            replace hmr := hide (hmr.out.trans (hm.mono fun _ _ f => f.elim))
            have hLw := hide (hLn.mod hm)
            have hc := hide hc
            have hcl := cnt_all D
            obtain ⟨N, hN⟩ : ∃ N, (linesOf 0 D).length = N := ⟨_, rfl⟩
            rw [hN] at hcl ⊢
            rw [hDl] at hcl
            replace hN := hide hN
            clear hl0 hm hLn
            go_wp2_with fail
            obtain ⟨wo, hwo⟩ : ∃ wo : World, wo = w1 := ⟨_, rfl⟩
            go_loopw [15, 89] (fun vk vi wr => ∃ i2 : Nat, i2 ≤ i ∧ vk = .int .i64 (cntW D i2 : Nat) ∧ vi = .int .i64 i2 ∧ Mod NoB w1 wr) (fun _ vi _ => i - (intOf vi).toNat)
            case atStart => exact ⟨0, by omega, rfl, rfl, Mod.refl _ _⟩
            case round =>
              obtain ⟨i2, hi2, rfl, rfl, hmz⟩ := hrel
              have hcle := cnt_le D i2
              by_cases hlt2 : i2 < i
              · obtain ⟨b, off, q, c, rfl, hb, hrow, hlc, hcc, hel⟩ := hR.out i2 hlt2
                have hmA : Mod (· = bA) W1 wr := hmr.out.trans (hmz.mono fun _ _ f => f.elim)
                have hrr := hmA.cellAt (by omega) (hmw.out.cellAt id hrow)
                have hl20 := hR20.out i2 hlt2
                have hLr := hide (hLw.out.mod hmz)
                have hj0 : (0 : Int) ≤ (i2 : Int) := by omega
                have hj1 : (i2 : Int) < (i : Int) := by omega
                have hw1 : IntKind.i64.wrap ((i2 : Int) + 1) = ((i2 + 1 : Nat) : Int) := IntWalk.i64_in _ (by omega)
                have ltr := lt_of_cell hrr
                replace hrow := hide hrow
                replace hel := hide hel
                by_cases hR0 : R i2 = []
                · have hcn := cnt_none hDa.out (show i2 < D.length by omega) hR0
                  rw [hR0] at hrr hlc
                  simp only [List.length_nil] at hrr hlc
                  obtain ⟨k, hk⟩ : ∃ k, cntW D i2 = k := ⟨_, rfl⟩
                  rw [hk] at hcn hcle ⊢
                  replace hcn := hide hcn
                  replace hk := hide hk
                  replace hR0 := hide hR0
                  replace hmz := hide hmz
                  clear hmA
                  go_wp2_with fail
                  go_roundw
                  case rel => exact ⟨i2 + 1, by omega, by rw [hcn.out], by go_num, hmz.out⟩
                  case measure => simp [intOf]; omega
                · obtain ⟨hcs, hget⟩ := cnt_some hDa.out (show i2 < D.length by omega) hR0
                  obtain ⟨k, hk⟩ : ∃ k, cntW D i2 = k := ⟨_, rfl⟩
                  rw [hk] at hcs hget hcle ⊢
                  have hkN : k < N := by rw [← hN.out]; exact (List.getElem?_eq_some_iff.mp hget).1
                  obtain ⟨g, u, c', rfl, a1, a2, a3⟩ := hc.out k _ hget
                  rw [List.length_map] at a2 a3
                  have hpos : 0 < (R i2).length := List.length_pos_iff.2 hR0
                  obtain ⟨len, hlen⟩ : ∃ len, (R i2).length = len := ⟨_, rfl⟩
                  rw [hlen] at hrr hlc hl20 hpos a2 a3
                  have ar1 := hmz.cellAt id a1
                  have ar2 := hmz.cellAt id a2
                  obtain ⟨g2, c2, hu, -, hlc2, f0⟩ := StrsAt.open a3 (by rw [List.length_map, hlen]; exact hpos)
                  rw [List.length_map, hlen] at hu
                  cases hu
                  have la1 := lt_of_cell ar1
                  have hk0 : (0 : Int) ≤ (k : Int) := by omega
                  have hk1 : (k : Int) < (N : Int) := by omega
                  have hge : decide ((N : Int) ≤ (k : Int)) = false := by simp; omega
                  have hgn : decide (N ≤ k) = false := by simp; omega
                  have hne0 : ¬ len = 0 := by omega
                  replace hcs := hide hcs
                  replace hk := hide hk
                  replace hR0 := hide hR0
                  replace hmz := hide hmz
                  replace hlen := hide hlen
                  replace f0 := hide f0
                  clear hmA a1 a3 hget
                  go_wp2_with fail
                  clear hrr ar1 ar2 ltr la1
                  obtain ⟨wi, hwi⟩ : ∃ wi : World, wi = wr := ⟨_, rfl⟩
                  rw [← hwi] at hmz hLr ⊢
                  clear hwi
                  go_loopw [124] (fun vj wr => ∃ j : Nat, j ≤ len ∧ vj = .int .i64 j ∧ Mod NoB w1 wr) (fun vj _ => len - (intOf vj).toNat)
                  case atStart => exact ⟨0, by omega, rfl, hmz.out⟩
                  case round =>
                    obtain ⟨j, hjl, rfl, hmj⟩ := hrel
                    by_cases hlt3 : j < len
                    · obtain ⟨d, o, rfl, hd, hcell, hwz⟩ := hel.out j (by rw [hlen.out]; exact hlt3)
                      have hmA : Mod (· = bA) W1 wr := hmr.out.trans (hmj.mono fun _ _ f => f.elim)
                      replace hcell := hmA.cellAt (by omega) (hmw.out.cellAt id hcell)
                      have hjr : j < (R i2).length := by rw [hlen.out]; exact hlt3
                      have hword := hmj.cellAt id (f0.out j (textOf ((R i2).getD j 0)) (by simp [List.getD, hjr]))
                      have ar2 := hmj.cellAt id a2
                      generalize (R i2).getD j 0 = z at hcell hwz hword
                      obtain ⟨z0, z1⟩ := bounds_u16 hwz
                      clear hwz
                      have hzw : IntKind.i64.wrap z = z := IntWalk.i64_in _ (by omega)
                      have hj0 : (0 : Int) ≤ (j : Int) := by omega
                      have hj1 : (j : Int) < (len : Int) := by omega
                      have lc1 := lt_of_cell hcell
                      have lc2 := lt_of_cell hword
                      have hLj := hLw.out.mod hmj
                      have hnum := number_any (textOf z) wr (by have := text_len z; omega) hLj
                      rw [numR_text z0 (by omega)] at hnum
                      replace hnum := hide hnum
                      replace hmj := hide hmj
                      clear hmA
                      go_wp2_with fail
                      refine hnum.out.mono ?_
                      rintro e w2 ⟨rfl, hmn⟩
                      replace hmj := hide (hmj.out.trans hmn)
                      clear hnum hmn hcell hword ar2 lc1 lc2
                      go_wp2_with fail
                      go_roundw
                      case rel => exact ⟨j + 1, by omega, by go_num, hmj.out⟩
                      case measure => simp [intOf]; omega
                    · obtain rfl : j = len := by omega
                      replace hmj := hide hmj
                      go_wp2_with fail
                      go_roundw
                      case rel => exact ⟨i2 + 1, by omega, by rw [hcs.out]; go_num, by go_num, hmj.out⟩
                      case measure => simp [intOf]; omega
              · obtain rfl : i2 = i := by omega
                rw [hcl]
                go_wp2_with fail
                refine (alive_any _ (hLw.out.mod hmz).s).mono ?_
                rintro e wz ⟨rfl, hmy⟩
                replace hmw := hide (hmw.out.into ((hmr.out.trans (hmz.mono fun _ _ f => f.elim)).trans (hmy.mono fun _ _ f => f.elim)) (fun b e => Or.inr (by omega)))
                clear hmy
                go_wp2
                go_ret
                exact ⟨rfl, hmw.out⟩


theorem own : ownKnob Tryd.prog.godebug = none := by kernel_rfl

theorem laid_met (os : Os) : laidMet Tryd.prog Rows.lexBlanksRow.laid ((World.laidAll Tryd.prog os Rows.lexBlanksRow.laid).forCall (fun _ _ => 0) ⟨#[], #[.slice none 0 0, .slice none 0 0], []⟩).memory :=
  laidMet_laidAll _ (by kernel_rfl) (by kernel_rfl)
theorem reads (os : Os) {H : Type} (enc : TypeId × Value → H) : ∃ places, DataW.whole enc Tryd.prog ((World.laidAll Tryd.prog os Rows.lexBlanksRow.laid).forCall (fun _ _ => 0) ⟨#[], #[.slice none 0 0, .slice none 0 0], []⟩).memory Tryd.f8.params.toList Rows.lexBlanksSpec.vars false #[.slice none 0 0, .slice none 0 0].toList 8 = some ([.nil, .nil], [], places) :=
  ⟨[], by kernel_rfl⟩

set_option maxRecDepth 100000 in
theorem lifted (os : Os) (started : os.Started) (H : Type) (enc : TypeId × Value → H) (F : Stop.Interp) :
    ReturnsInHanded {} Tryd.checked os 8 .any ((OpenSpec.ofChange Rows.lexBlanksSpec).preRow enc Tryd.prog Tryd.f8 Rows.lexBlanksRow.domain false Rows.lexBlanksRow.laid) (((OpenSpec.ofChange Rows.lexBlanksSpec).at F).post enc Tryd.prog Tryd.f8 false true false false) := by
  obtain ⟨places, hx⟩ := reads os enc
  refine law_row (C := Tryd.checked) (bt := 4) own started (by kernel_rfl) Tryd.func8 (by kernel_rfl) (by kernel_rfl) (by kernel_rfl) Tryd.underlying4 rfl ?_ rfl
    (witness_row_atRef (enc := enc) (C := Tryd.checked) false (World.laidAll Tryd.prog os Rows.lexBlanksRow.laid) #[.slice none 0 0, .slice none 0 0] (World.laidAll_os _ _ _) (by kernel_rfl) (by kernel_rfl) (by kernel_rfl)
      (OpenSpec.preRow_of_cond 8 hx (by kernel_rfl) (fun k hk => by cases hk) (by kernel_rfl) (laid_met os))) ?_
  · intro ds h
    match ds, h with
    | [d0, d1], _ => rfl
  · intro W base args ds ps hval0 hA0 hsz hL hsh
    have hval : ∀ (j : Nat) t v, Tryd.f8.params[j]? = some t → args[j]? = some v → Value.okWide Tryd.prog W .any base t v := hval0
    have hA : DataW.TrodAll enc Tryd.prog W 0 (fun _ => true) true Tryd.f8.params.toList args.toList ds ps := hA0
    have hLd := laidN_of (by simp [Rows.lexBlanksRow]) (by simp [Rows.lexBlanksRow]) (by simp [Rows.lexBlanksRow]) hL
    rw [Tryd.params8] at hA hval
    obtain ⟨v0, v1, d0, d1, p0, p1, rfl, rfl, rfl, h0, h1⟩ := trodAll_two hA
    obtain ⟨x, n, cap, R, rfl, hn, hcap, hR⟩ := open_rowsAt Tryd.underlying46 Tryd.underlying49 Tryd.underlying50 (by kernel_rfl) (by kernel_rfl) (hval 0 _ _ rfl rfl) h0
    obtain ⟨y, nb, cb, Z, rfl, hnb, hcb, hZ, hwf⟩ := open_intsAt Tryd.underlying47 Tryd.underlying5 (by kernel_rfl) (hval 1 _ _ rfl rfl) h1
    exact walk x n cap R y nb cb Z W hn hcap hR hnb hcb hZ hwf hLd

theorem said : Rows.LexBlanksSaid :=
  OpenClaim.holds_of_cond 8 Tryd.f8 rfl rfl rfl rfl rfl rfl rfl ⟨rfl, rfl, rfl, rfl, rfl⟩ rfl rfl rfl rfl rfl (by kernel_rfl) Tryd.func8 (by kernel_rfl)
    (of_decide_eq_true (by kernel_rfl)) (by unfold Func.isWrapper; first | (rw [if_pos (by decide +kernel)]; kernel_rfl) | (rw [if_neg (by decide +kernel)]; exact ⟨rfl, rfl⟩))
    (fun os started H enc _ F => by rw [OpenClaim.pre_eq_preRow]; exact lifted os started H enc F)

theorem plain (f : FuncId) (fn : Func) (hf : Tryd.pinned.checked.prog.funcNamed "chronobate/chronobatelaw05.LexBlanks" = some f) (hfn : Tryd.pinned.checked.prog.funcs[f]? = some fn) :
    true = Tryd.pinned.checked.prog.looks [] ∧ ∀ (j : Nat) t, fn.params[j]? = some t → Tryd.pinned.checked.prog.wantsStandIn t = false := by
  obtain rfl : f = 8 := Option.some.inj ((show Tryd.prog.funcNamed "chronobate/chronobatelaw05.LexBlanks" = some 8 by kernel_rfl).symm.trans hf) |>.symm
  obtain rfl : fn = Tryd.f8 := (Option.some.inj (Tryd.func8.symm.trans hfn)).symm
  refine ⟨by kernel_rfl, fun j t ht => ?_⟩
  have hall : (Tryd.f8.params.toList.all fun t => !(Tryd.prog.wantsStandIn t)) = true := by kernel_rfl
  have := List.all_eq_true.1 hall t (Array.mem_toList_iff.2 (Array.mem_of_getElem? ht))
  have h2 : Tryd.prog.wantsStandIn t = false := by simpa using this
  exact h2

theorem proved : Rows.LexBlanksCardSaid :=
  Claim7.holds_tied_plain_at .later [] _ _ _ _ said (fun _ h => by cases h) (by kernel_rfl) (fun _ h => by cases h) lexBlanks_row_tie rfl ⟨rfl, rfl⟩ (by kernel_rfl) rfl plain (by kernel_rfl)
#print axioms proved
end Go.Proofs.YthbaoocnnfnhnaaDoor.lexBlanks
