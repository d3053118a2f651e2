/- The document's numbers of words (chapter 6). The document's line of a config (chapter 6), walked. The document's Parse of a config (chapter 6), walked. The document's example of chapter 6. The document's Print of a config (chapter 6), walked. A config handed in by value. -/
import Derived.Test.YtdcmjjinmnbaoaaGreatDoorMD
import Derived.Test.YtdcmjjinmnbaoaaGreatDoorMC
import Derived.Test.YtdcmjjinmnbaoaaGreatDoorMB
import Derived.Lib.SmallJoins
import Derived.Deep.Fields
import Derived.ChangeSlices
namespace Go.Proofs.YtdcmjjinmnbaoaaGreatDoor
open Go.RowKit

abbrev pair2 (x y : Int) : Array Value := #[.int .i64 x, .int .i64 y]
theorem set2 {W : World} {B : Nat} {x0 x1 : Value} {T : TypeId} (h : W.heap[B]? = some (.cells #[x0, x1] T (0, 0))) (y0 y1 : Value) :
    ∃ W2, (W.setCell ⟨B, 0, none⟩ y0).setCell ⟨B, 1, none⟩ y1 = W2 ∧ W2.heap[B]? = some (.cells #[y0, y1] T (0, 0)) ∧ Mod (· = B) W W2 := by
  refine ⟨_, rfl, ?_, ((Mod.refl _ _).set1 _ _).set1 _ _⟩
  have h1 := heap_setCell_eq (o := 0) h y0
  have h2 := heap_setCell_eq (o := 1) h1 y1
  rw [h2]
  rfl

/-- How the document's numbers end. -/
def NumsOut (ns : List (List UInt8)) (e : Ending) : Prop :=
  (numsE ns = 0 ∧ e = .returned (.tuple #[.agg (pair2 ((numsV ns ns.length).getD 0 0) ((numsV ns ns.length).getD 1 0)), .int .i64 0])) ∨
  (numsE ns ≠ 0 ∧ ∃ x y : Int, e = .returned (.tuple #[.agg (pair2 x y), .int .i64 (numsE ns)]))

end Go.Proofs.YtdcmjjinmnbaoaaGreatDoor
namespace Go.Proofs.YtdcmjjinmnbaoaaGreatDoor
open Go.RowKit

def seenV (s : Nat → Bool) : Array Value := #[.bool (s 0), .bool (s 1), .bool (s 2), .bool (s 3), .bool (s 4)]
def keysV : Array Value := #[.string ⟨#[115, 101, 114, 118, 101, 114]⟩, .string ⟨#[113, 117, 111, 114, 117, 109]⟩, .string ⟨#[112, 111, 108, 108]⟩, .string ⟨#[100, 101, 108, 97, 121]⟩, .string ⟨#[115, 108, 101, 119]⟩]
theorem keys_at : ∀ k, k < 5 → keysV[k]? = some (.string (bs (keyW k))) := by
  intro k hk
  rcases bounds5 k hk with rfl | rfl | rfl | rfl | rfl <;> rfl
theorem keyOf_at {s : List UInt8} {k : Nat} (hk : k < 5) (h : keyW k = s) : keyOf s = some k := by rw [← h]; exact keyOf_keyW hk
theorem keyOf_no {s : List UInt8} (h : ∀ j, j < 5 → keyW j ≠ s) : keyOf s = none := by
  cases hk : keyOf s with
  | none => rfl
  | some k => exact absurd (keyOf_some hk).2 (h k (keyOf_some hk).1)

end Go.Proofs.YtdcmjjinmnbaoaaGreatDoor
namespace Go.Proofs.YtdcmjjinmnbaoaaGreatDoor
open Go.RowKit

theorem seenV_at (s : Nat → Bool) : ∀ k, k < 5 → (seenV s)[k]? = some (.bool (s k)) := by
  intro k hk
  rcases bounds5 k hk with rfl | rfl | rfl | rfl | rfl <;> rfl

end Go.Proofs.YtdcmjjinmnbaoaaGreatDoor
namespace Go.Proofs.YtdcmjjinmnbaoaaGreatDoor
open Go.RowKit

def aliveC : List UInt8 := [115, 101, 114, 118, 101, 114, 32, 55, 10, 113, 117, 111, 114, 117, 109, 32, 49, 10, 112, 111, 108, 108, 32, 52, 32, 49, 54, 10, 100, 101, 108, 97, 121, 32, 49, 48, 48, 48, 10, 115, 108, 101, 119, 32, 53, 48, 48]
theorem aliveC_1 : (parseR aliveC).1 = ⟨[7], 1, 4, 16, 1000, 500⟩ := by kernel_rfl
theorem aliveC_2 : (parseR aliveC).2.1 = 0 := by kernel_rfl
theorem aliveC_3 : (parseR aliveC).2.2 = 0 := by kernel_rfl

/-- How a text's parse ends, said of the values. -/
theorem ParseOut.vals {r : Cfg × Int × Int} {w w' : World} {e : Ending} (h : ParseOut r w e w') {a : Cfg} {n er : Int} (h1 : r.1 = a) (h2 : r.2.1 = n) (h3 : r.2.2 = er) :
    ∃ p c, e = .returned (.tuple #[a.val p c, .int .i64 n, .int .i64 er]) ∧ IntsL w' p a.srv ∧ a.srv.length ≤ c ∧ (∀ b off, p = some ⟨b, off, none⟩ → w.heap.size ≤ b) ∧ a.srv.length ≤ 16 := by
  subst h1; subst h2; subst h3; exact h

set_option maxRecDepth 100000 in
set_option maxHeartbeats 4000000 in
theorem calive_any (w : World) (hL : LaidN w) : Calls Tryz.prog 4 #[] w fun e w' => e = .returned (.bool true) ∧ Mod NoB w w' := by
  have hl0 := parse_any aliveC (by decide) w hL
  have hl : Calls Tryz.prog 8 #[.string ⟨#[115, 101, 114, 118, 101, 114, 32, 55, 10, 113, 117, 111, 114, 117, 109, 32, 49, 10, 112, 111, 108, 108, 32, 52, 32, 49, 54, 10, 100, 101, 108, 97, 121, 32, 49, 48, 48, 48, 10, 115, 108, 101, 119, 32, 53, 48, 48]⟩] w fun e w' => ParseOut (parseR aliveC) w e w' ∧ Mod NoB w w' := hl0
  replace hl := hide hl
  clear hl0
  go_enter Tryz.func4, Tryz.ntmps4
  go_wp2_with fail
  refine hl.out.mono ?_
  rintro e w1 ⟨ho, hm⟩
  obtain ⟨p, c, rfl, hints, hc, -, -⟩ := ho.vals aliveC_1 aliveC_2 aliveC_3
  obtain ⟨b, off, rfl, hb, hcell⟩ := hints 0 (by decide)
  replace hm := hide hm
  replace hints := hide hints
  have hcell' : w1.cell? ⟨b, off, none⟩ = some (.int .i64 7) := hcell
  have hlt := lt_of_cell hcell'
  clear hcell
  go_wp2
  go_ret
  exact ⟨rfl, hm.out.alloc _⟩
end Go.Proofs.YtdcmjjinmnbaoaaGreatDoor
namespace Go.Proofs.YtdcmjjinmnbaoaaGreatDoor
open Go.RowKit

theorem srvT_take {xs : List Int} {i : Nat} (h : i < xs.length) : srvT (xs.take (i + 1)) = srvT (xs.take i) ++ lineT [115, 101, 114, 118, 101, 114] [xs.getD i 0] := by
  have : xs.take (i + 1) = xs.take i ++ [xs.getD i 0] := by
    rw [List.take_add_one]
    simp [List.getD, h]
  rw [this, srvT_snoc]

end Go.Proofs.YtdcmjjinmnbaoaaGreatDoor
namespace Go.Proofs.YtdcmjjinmnbaoaaGreatDoor
open Go.Joins Go.ChangeShapes Go.WideShapes Go.RowKit Go.Deep Go.ChangeAt

section
variable {H : Type} {enc : TypeId × Value → H} {P : Program} {w : World} {base : Nat} {spare : Nat → Bool} {held : Bool}
theorem open_agg6 {r : Reach} {b0 : Nat} {t : TypeId} {f0 f1 f2 f3 f4 f5 : Field} {v : Value} {d : DataW H} {p : List MemPlace} (hs : P.underlying t = some (.struct #[f0, f1, f2, f3, f4, f5])) (hone : oneCellFields P #[f0, f1, f2, f3, f4, f5] = true) (hC : P.cellsOf t = 6)
    (hv : Value.okWide P w r b0 t v) (h : DataW.Trod enc P w base spare held t v d p) :
    ∃ (v0 v1 v2 v3 v4 v5 : Value) (y0 y1 y2 y3 y4 y5 : DataW H × List MemPlace) (n : Nat), v = .agg #[v0, v1, v2, v3, v4, v5] ∧ d = .agg [y0.1, y1.1, y2.1, y3.1, y4.1, y5.1] ∧ p = y0.2 ++ (y1.2 ++ (y2.2 ++ (y3.2 ++ (y4.2 ++ y5.2)))) ∧
      DataW.trod enc P w base spare held n f0.type [v0] = some y0 ∧ DataW.trod enc P w base spare held n f1.type [v1] = some y1 ∧ DataW.trod enc P w base spare held n f2.type [v2] = some y2 ∧ DataW.trod enc P w base spare held n f3.type [v3] = some y3 ∧ DataW.trod enc P w base spare held n f4.type [v4] = some y4 ∧ DataW.trod enc P w base spare held n f5.type [v5] = some y5 := by
  obtain ⟨cs, rfl, hsz⟩ := okWide_struct hs hv
  obtain ⟨l⟩ := cs
  match l, hsz.trans hC with
  | [c0, c1, c2, c3, c4, c5], _ =>
    obtain ⟨fuel, hf⟩ := h
    obtain ⟨xs, n, _, hx, _, hlen, hg⟩ := DataW.trod_struct hs hf
    obtain ⟨o0, k0⟩ := hone_of hone 0 f0 rfl
    obtain ⟨o1, k1⟩ := hone_of hone 1 f1 rfl
    obtain ⟨o2, k2⟩ := hone_of hone 2 f2 rfl
    obtain ⟨o3, k3⟩ := hone_of hone 3 f3 rfl
    obtain ⟨o4, k4⟩ := hone_of hone 4 f4 rfl
    obtain ⟨o5, k5⟩ := hone_of hone 5 f5 rfl
    match xs, hlen with
    | [y0, y1, y2, y3, y4, y5], _ =>
      simp only [Prod.mk.injEq] at hx
      exact ⟨c0, c1, c2, c3, c4, c5, y0, y1, y2, y3, y4, y5, n, rfl, by simpa using hx.1, by simpa using hx.2, by simpa [Value.cells, o0, k0] using hg 0 f0 rfl, by simpa [Value.cells, o1, k1] using hg 1 f1 rfl, by simpa [Value.cells, o2, k2] using hg 2 f2 rfl, by simpa [Value.cells, o3, k3] using hg 3 f3 rfl, by simpa [Value.cells, o4, k4] using hg 4 f4 rfl, by simpa [Value.cells, o5, k5] using hg 5 f5 rfl⟩
end

/-- Ints handed in, as a slice. -/
theorem open_intsL {H : Type} {enc : TypeId × Value → H} {P : Program} {w : World} {t e : TypeId} {n : Nat} {v : Value} {x : DataW H × List MemPlace} (ht : P.underlying t = some (.slice e)) (he : P.underlying e = some (.int .i64)) (hc : P.cellsOf e = 1)
    (h : DataW.trod enc P w 0 (fun _ => true) true n t [v] = some x) :
    ∃ (p : Option Addr) (xs : List Int) (c : Nat), v = .slice p xs.length c ∧ IntsL w p xs ∧ xs.length ≤ c ∧ c ≤ 9223372036854775807 ∧ (∀ z ∈ xs, I64 z) := by
  rcases Go.ChangeShapes.open_ints ht he hc h with ⟨hcs, _⟩ | ⟨a, len, cap, zs, hcs, _, hl, hm, hzl, _, hcell, hwf⟩
  · simp at hcs
    exact ⟨none, [], 0, hcs, fun j hj => by simp at hj, by simp, by omega, by simp⟩
  · simp at hcs
    unfold maxLen at hm
    simp at hzl
    have hll : (zs.take len).length = len := by simp; omega
    refine ⟨some a, zs.take len, cap, by rw [hll]; exact hcs, fun j hj => ?_, by omega, by omega, fun z hz => i64_of_wf (hwf z (List.mem_of_mem_take hz))⟩
    rw [hll] at hj
    obtain ⟨b, off, spot⟩ := a
    have h0 := hcell j (by omega)
    have hspot : spot = none := by simpa [Addr.add] using World.cell?_spot (hcell 0 (by omega))
    subst hspot
    rw [add_plain] at h0
    refine ⟨b, off, rfl, World.block_lt_of_cell? w _ h0, ?_⟩
    rw [h0]
    simp [List.getD, List.getElem?_take_of_lt hj]

theorem open_int1 {H : Type} {enc : TypeId × Value → H} {P : Program} {w : World} {t : TypeId} {n : Nat} {v : Value} {x : DataW H × List MemPlace} (ht : P.underlying t = some (.int .i64))
    (h : DataW.trod enc P w 0 (fun _ => true) true n t [v] = some x) : ∃ z, v = .int .i64 z ∧ I64 z := by
  obtain ⟨z, hz, _, hw⟩ := DataW.trod_int ht h
  simp at hz
  exact ⟨z, hz, i64_of_wf hw⟩

/-- What a config that is handed in is. -/
structure CfgOk (a : Cfg) : Prop where
  srv : ∀ z ∈ a.srv, I64 z
  q : I64 a.q
  l : I64 a.l
  m : I64 a.m
  d : I64 a.d
  s : I64 a.s

set_option maxRecDepth 100000 in
theorem open_cfg {H : Type} {enc : TypeId × Value → H} {w : World} {r : Reach} {b0 : Nat} {v : Value} {d : DataW H} {ps : List MemPlace} (hv : Value.okWide Tryz.prog w r b0 24 v) (h : DataW.Trod enc Tryz.prog w 0 (fun _ => true) true 24 v d ps) :
    ∃ (a : Cfg) (p : Option Addr) (c : Nat), v = a.val p c ∧ IntsL w p a.srv ∧ a.srv.length ≤ c ∧ c ≤ 9223372036854775807 ∧ CfgOk a := by
  obtain ⟨v0, v1, v2, v3, v4, v5, y0, y1, y2, y3, y4, y5, n, rfl, _, _, h0, h1, h2, h3, h4, h5⟩ := open_agg6 Tryz.underlying24 (by kernel_rfl) (by kernel_rfl) hv h
  obtain ⟨p, xs, c, rfl, hi, hc, hm, hw⟩ := open_intsL Tryz.underlying22 Tryz.underlying3 (by kernel_rfl) h0
  obtain ⟨q, rfl, hq⟩ := open_int1 Tryz.underlying3 h1
  obtain ⟨l, rfl, hl⟩ := open_int1 Tryz.underlying3 h2
  obtain ⟨m, rfl, hm'⟩ := open_int1 Tryz.underlying3 h3
  obtain ⟨d', rfl, hd⟩ := open_int1 Tryz.underlying3 h4
  obtain ⟨s, rfl, hs⟩ := open_int1 Tryz.underlying3 h5
  exact ⟨⟨xs, q, l, m, d', s⟩, p, c, rfl, hi, hc, hm, ⟨hw, hq, hl, hm', hd, hs⟩⟩
end Go.Proofs.YtdcmjjinmnbaoaaGreatDoor
