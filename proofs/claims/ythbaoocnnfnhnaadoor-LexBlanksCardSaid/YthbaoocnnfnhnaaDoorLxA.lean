/- Package lex: what it asks of a line's bytes. -/
import Derived.Test.YthbaoocnnfnhnaaDoorKit
import Derived.Lib.OthersKept
namespace Go.Proofs.YthbaoocnnfnhnaaDoor
open Go.RowKit

/-- A byte that may stand alone. -/
def okB (b : UInt8) : Bool := b == 9 || (decide (32 ≤ b.toNat) && decide (b.toNat ≤ 126))

theorem decode_high (s : ByteArray) (p : Nat) (h : p < s.size) (hb : ¬ (s[p]'h).toNat < 128) : 126 < (Utf8.decode s p).1 := by
  have hg : s.get! (p + 0) = s[p]'h := by
    simp [ByteArray.get!, h]
    rfl
  unfold Utf8.decode
  simp only [hg]
  rw [if_neg (by omega)]
  have hr : 126 < Utf8.runeError := by decide
  split
  · split
    · show 126 < _; omega
    · exact hr
  · split
    · split
      · rename_i h1; simp only [Bool.and_eq_true, decide_eq_true_eq] at h1; show 126 < _; omega
      · exact hr
    · split
      · split
        · rename_i h1; simp only [Bool.and_eq_true, decide_eq_true_eq] at h1; show 126 < _; omega
        · exact hr
      · exact hr

theorem Mod.iterAt {S : Nat → Prop} {a w : World} (h : Mod S a w) {k : Nat} (hk : S k ∨ a.heap.size ≤ k) (s : ByteArray) (p : Nat) : Mod S a (w.iterAt k s p) :=
  ⟨h.os, h.tape, h.output, by rw [Lib.iterAt_size]; exact h.size, fun j hj hn => by
    rw [Lib.iterAt_other w k j s p (fun e => by subst e; rcases hk with hk | hk; exact hn hk; omega)]
    exact h.block j hj hn⟩

theorem okB_eq (b : UInt8) : okB b = (decide (b.toNat = 9) || (decide (32 ≤ b.toNat) && decide (b.toNat ≤ 126))) := by
  unfold okB
  congr 1
  by_cases h : b = 9
  · subst h; rfl
  · have h2 : ¬ b.toNat = 9 := fun e => h (UInt8.toNat_inj.mp e)
    simp [h, h2]
theorem all_false {l : List UInt8} {k : Nat} {b : UInt8} {q : UInt8 → Bool} (h : l[k]? = some b) (hb : q b = false) : l.all q = false := by
  rw [List.all_eq_false]
  exact ⟨b, List.mem_of_getElem? h, by simp [hb]⟩
theorem iterPos_of {w : World} {k : Nat} {s : ByteArray} {p : Nat} (h : w.heap[k]? = some (.stringIter s p)) : w.iterPos k = p := by simp [World.iterPos, h]

set_option maxHeartbeats 4000000 in
theorem plain_any (s : ByteArray) (w : World) :
    Calls Tryd.prog 25 #[.string s] w fun e w' => e = .returned (.bool (s.data.toList.all okB)) ∧ Mod NoB w w' := by
  obtain ⟨vb, hvb⟩ : ∃ v, s.data.toList.all okB = v := ⟨_, rfl⟩
  rw [hvb]
  replace hvb := hide hvb
  go_enter Tryd.func25, Tryd.ntmps25
  go_wp2_with fail
  go_loopw [] (fun wr => ∃ k : Nat, k ≤ s.size ∧ (s.data.toList.take k).all okB = true ∧ wr.heap[w.heap.size]? = some (.stringIter s k) ∧ Mod NoB w wr) (fun wr => s.size - wr.iterPos w.heap.size)
  case atStart =>
    refine ⟨0, by omega, by simp, ?_, (Mod.refl _ _).alloc _⟩
    exact World.iter_heap w s 0
  case round =>
    obtain ⟨k, hk, hall, hit, hm⟩ := hrel
    replace hall := hide hall
    have hpos : wr.iterPos w.heap.size = k := by simp [World.iterPos, hit]
    by_cases hp : k < s.size
    · obtain ⟨b, hb⟩ : ∃ b, s[k]'hp = b := ⟨_, rfl⟩
      have hl : s.data.toList[k]? = some b := by
        rw [← hb]
        simp [hp]
        rfl
      have hm2 : Mod NoB w (wr.iterAt w.heap.size s (k + (Utf8.decode s k).2)) := hm.iterAt (Or.inr (Nat.le_refl _)) _ _
      by_cases ha : b.toNat < 128
      · rw [decode_ascii s k hp (by rw [hb]; exact ha), hb] at hm2
        have hnx : ∀ ty, (Instr.next (.pointer (some ⟨w.heap.size, 0, none⟩)) true ty).run Tryd.prog wr = .ok (.tuple #[.bool true, .int .i64 k, .int .i32 (b.toNat : Nat)]) (wr.iterAt w.heap.size s (k + 1)) := fun ty => by
          have := Lib.run_next_ascii_at (P := Tryd.prog) wr w.heap.size s k ty hit hp (by rw [hb]; exact ha)
          rw [hb] at this
          exact this
        have hit2 := Lib.iterAt_heap wr w.heap.size s k (k + 1) hit
        have hpos2 := iterPos_of hit2
        have htk : (s.data.toList.take (k + 1)).all okB = okB b := by
          rw [List.take_add_one, hl]
          simp [List.all_append, hall.out]
        have hok : okB b = (decide (b.toNat = 9) || (decide (32 ≤ b.toNat) && decide (b.toNat ≤ 126))) := okB_eq b
        have hno : okB b = false → vb = false := fun h => by rw [← hvb.out]; exact all_false hl h
        generalize okB b = ob at htk hok hno
        generalize b.toNat = m at hnx ha hok
        replace htk := hide htk
        replace hno := hide hno
        replace hm2 := hide hm2
        replace hit2 := hide hit2
        replace hpos2 := hide hpos2
        by_cases h9 : m = 9
        · subst h9
          replace hok : Hid (ob = true) := hide (by rw [hok]; rfl)
          go_wp2
          go_roundw
          case rel => exact ⟨k + 1, by omega, by rw [htk.out, hok.out], hit2.out, hm2.out⟩
          case measure => rw [hpos2.out, hpos]; omega
        · have hm9 : ((m : Int) != 9) = true := by simp; omega
          by_cases h32 : m < 32
          · replace hok : Hid (ob = false) := hide (by rw [hok]; simp; omega)
            go_wp2
            go_ret
            exact ⟨bool_ret (hno.out hok.out).symm, hm2.out⟩
          · by_cases h126 : 126 < m
            · replace hok : Hid (ob = false) := hide (by rw [hok]; simp; omega)
              go_wp2
              all_goals first
                | (exfalso; omega)
                | (go_ret; exact ⟨bool_ret (hno.out hok.out).symm, hm2.out⟩)
            · replace hok : Hid (ob = true) := hide (by rw [hok]; simp; omega)
              go_wp2
              go_roundw
              case rel => exact ⟨k + 1, by omega, by rw [htk.out, hok.out], hit2.out, hm2.out⟩
              case measure => rw [hpos2.out, hpos]; omega
      · have hnx : ∀ ty, (Instr.next (.pointer (some ⟨w.heap.size, 0, none⟩)) true ty).run Tryd.prog wr = _ := fun ty => Lib.run_next_any_at wr w.heap.size s k ty hit hp
        have hd := decode_high s k hp (by rw [hb]; exact ha)
        have hno : vb = false := by rw [← hvb.out]; exact all_false hl (by rw [okB_eq]; simp; omega)
        generalize (Utf8.decode s k).1 = r at hnx hd
        replace hno := hide hno
        replace hm2 := hide hm2
        clear hb hl ha
        have h9 : ¬ r = 9 := by omega
        have hm9 : ((r : Int) != 9) = true := by simp; omega
        have h32 : ¬ r < 32 := by omega
        go_wp2
        all_goals first
          | (exfalso; omega)
          | (go_ret; exact ⟨bool_ret hno.out.symm, hm2.out⟩)
    · have hnx : ∀ ty, (Instr.next (.pointer (some ⟨w.heap.size, 0, none⟩)) true ty).run Tryd.prog wr = _ := fun ty => Lib.run_next_end_at wr w.heap.size s k ty hit hp
      obtain rfl : k = s.size := by omega
      have hall2 : vb = true := by
        rw [← hvb.out]
        have h := hall.out
        rwa [List.take_of_length_le (by simp)] at h
      replace hall2 := hide hall2
      replace hm := hide hm
      go_wp2
      go_ret
      exact ⟨bool_ret hall2.out.symm, hm.out⟩
end Go.Proofs.YthbaoocnnfnhnaaDoor
