/- conf.words, walked. -/
import Derived.Test.YtpjfiplejhbdfaaGreatDoorPUae
namespace Go.Proofs.YtpjfiplejhbdfaaGreatDoor
open Go.RowKit

/-- The closure 'into'. -/
theorem into_any (ba n : Nat) (w : World) :
    Calls Tryz.prog 106 #[.slice (some ⟨ba, 0, none⟩) n n] w fun e w' => e = .returned (at0c (w.heap.size + 1) 0) ∧
      w' = (w.alloc (.cells #[.slice (some ⟨ba, 0, none⟩) n n] 229)).alloc (.cells #[.int .i64 n, .bool false, .bool false, fTake w.heap.size] 161) := by
  go_enter Tryz.func106, Tryz.ntmps106
  go_wp2
  go_ret
  exact ⟨rfl, rfl⟩

/-- The frame of conf.words in its region. -/
def frameW (bc B0 : Nat) (s : Nat → Value) : Act :=
  { tmps := #[at0c bc 0, at0c B0 0, s 2, fInto, fServer B0, fServer B0, s 6, s 7, s 8, s 9, s 10, s 11, s 12, s 13, s 14, s 15, s 16, s 17, s 18, s 19, s 20, s 21, s 22, s 23, s 24, s 25, s 26, s 27, s 28, s 29, s 30, s 31, s 32, s 33, s 34, s 35, s 36, s 37], defers := [] }

def LOf (listed : Array Bool) (j : Nat) : Bool := listed.getD j false
theorem LOf_set {listed : Array Bool} {i : Nat} (h : i < listed.size) : LOf (listed.setIfInBounds i true) = upd (LOf listed) i true := by
  funext j
  unfold LOf upd
  by_cases hj : j = i
  · subst hj; simp [h]
  · rw [if_neg hj]
    simp [Ne.symm hj]

theorem lof_no {listed : Array Bool} {i : Nat} (h : i < listed.size) (hl : listed.getD i true = false) : LOf listed i = false := by
  unfold LOf
  simp [h] at hl ⊢
  exact hl
theorem pre_of {o : Oper} {listed : Array Bool} (h : ∀ e ∈ o.after, Region.binds .any e = true → listed.getD e.on false = true) (j : Nat) (hj : (o.after.toList.any fun e => Region.binds .any e && e.on == j) = true) : LOf listed j = true := by
  obtain ⟨e, he, hb⟩ := List.any_eq_true.1 hj
  replace he : e ∈ o.after := Array.mem_toList_iff.1 he
  simp only [Bool.and_eq_true, beq_iff_eq] at hb
  rw [← hb.2]
  exact h e he hb.1
/-- A word that isn't laid isn't put in. -/
theorem ins_no {bc B0 : Nat} {W0 : World} {L : Nat → Bool} {s : Nat → Value} {w : World} (h : InvW bc B0 W0 L s w) (k : Nat) (k5 : k < 5) (hL : L (wOp k) = false) : L (iOp k) = false := by
  cases h0 : L 0 with
  | false => exact h.nomap h0 k k5
  | true =>
    obtain ⟨bM, order, _, _, _, _, e5, e6⟩ := h.map h0
    cases hi : L (iOp k) with
    | false => rfl
    | true =>
      have := e6 k ((e5 k).2 ⟨k5, hi⟩)
      rw [hL] at this
      cases this
theorem server_at (bc B0 : Nat) (w : World) : WordAt bc B0 0 false (w.alloc (.cells #[.int .i64 1, .bool true, .bool false, fServer B0] 161)) w.heap.size := by
  unfold WordAt
  rw [if_pos rfl]
  exact heap_alloc_new _ _
theorem into_at (bc B0 k : Nat) (hk : 0 < k) (w : World) (ba : Nat) (hba : w.heap[ba]? = some (.cells ((fieldsW k).map (at0c bc)).toArray 230 (0, 0))) :
    WordAt bc B0 k false ((w.alloc (.cells #[.slice (some ⟨ba, 0, none⟩) (fieldsW k).length (fieldsW k).length] 229)).alloc (.cells #[.int .i64 (fieldsW k).length, .bool false, .bool false, fTake w.heap.size] 161)) (w.heap.size + 1) := by
  unfold WordAt
  rw [if_neg (by omega)]
  refine ⟨w.heap.size, ba, ?_, (heap_alloc_old (by simp) _).trans (heap_alloc_new _ _), ?_⟩
  · have := heap_alloc_new (w.alloc (.cells #[.slice (some ⟨ba, 0, none⟩) (fieldsW k).length (fieldsW k).length] 229)) (.cells #[.int .i64 (fieldsW k).length, .bool false, .bool false, fTake w.heap.size] 161)
    rwa [World.size_alloc] at this
  · have hlt := lt_of_block hba
    exact (heap_alloc_old (by simp; omega) _).trans ((heap_alloc_old hlt _).trans hba)
theorem keyW_inj : ∀ j, j < 5 → ∀ k, k < 5 → keyW j = keyW k → j = k := by decide
theorem ents_mem {v : Nat → Value} {order : List Nat} {x : MapEntry} (h : x ∈ ents v order) : ∃ k ∈ order, x.key = .string ⟨(keyW k).toArray⟩ ∧ x.val = v k := by
  unfold ents at h
  obtain ⟨y, hy, rfl⟩ := List.mem_map.1 h
  exact ⟨y.1, (List.mem_zipIdx' hy).2 ▸ List.getElem_mem _, rfl, rfl⟩
theorem ents_keys {v : Nat → Value} {order : List Nat} : ∀ x ∈ (ents v order).toArray.toList, Go.MapKept.IsKey .string x.key := by
  intro x hx
  obtain ⟨k, _, h, _⟩ := ents_mem (by simpa using hx)
  rw [h]
  simp [Go.MapKept.IsKey]
theorem ins_run {bM : Nat} {order : List Nat} {s : Nat → Value} {w : World} {k : Nat} (k5 : k < 5) (v : Value) (hb : w.heap[bM]? = some (.map (ents (fun k => s (wSlot k)) order).toArray order.length)) (h5 : ∀ j ∈ order, j < 5) (hk : k ∉ order) :
    (Instr.mapUpdate 154 (.map (some bM)) (.string ⟨(keyW k).toArray⟩) v).run Tryz.prog w = .ok () (setO w bM (.map ((ents (fun k => s (wSlot k)) order).toArray.push { key := .string ⟨(keyW k).toArray⟩, val := v, born := order.length }) (order.length + 1))) := by
  refine run_insS Tryz.underlying154 Tryz.underlying9 _ v hb ents_keys ?_
  intro x hx e
  obtain ⟨j, hj, h, _⟩ := ents_mem (by simpa using hx)
  rw [h] at e
  have h2 : keyW j = keyW k := by simpa using e
  exact hk (keyW_inj j (h5 j hj) k k5 h2 ▸ hj)

def IW (bc : Nat) (w : World) (listed : Array Bool) (a : Act) (w' : World) : Prop :=
  ∃ s, a = frameW bc w.heap.size s ∧ InvW bc w.heap.size (w.alloc (.cells #[at0c bc 0] 144)) (LOf listed) s w'

def WordsOut (bc : Nat) (w : World) (e : Ending) (w' : World) : Prop :=
  ∃ (bM : Nat) (b : Nat → Nat) (order : List Nat), e = .returned (.map (some bM)) ∧ w.heap.size < bM ∧ w'.heap[bM]? = some (.map (ents (fun k => at0c (b k) 0) order).toArray order.length) ∧ order.Nodup ∧ (∀ k, k ∈ order ↔ k < 5) ∧
    w'.heap[w.heap.size]? = some (.cells #[at0c bc 0] 144 (0, 0)) ∧ (∀ k, k < 5 → w.heap.size < b k ∧ WordAt bc w.heap.size k false w' (b k)) ∧ (∀ j k, j < 5 → k < 5 → j ≠ k → b j ≠ b k) ∧ Mod NoB w w'

set_option maxRecDepth 100000 in
set_option maxHeartbeats 8000000 in
theorem words_any (bc : Nat) (w : World) : Calls Tryz.prog 72 #[.pointer (some ⟨bc, 0, none⟩)] w (WordsOut bc w) := by
  go_enter Tryz.func72, Tryz.ntmps72
  go_wp2_with fail
  refine wp_region_inv (by kernel_rfl) (by kernel_rfl) (IW bc w) ?_ ?_ ?_
  · have hL : ∀ j, LOf (Array.replicate 38 false) j = false := fun j => by
      unfold LOf
      by_cases hj : j < 38 <;> simp [hj]
    have hno : ∀ {p : Prop} j, LOf (Array.replicate 38 false) j = true → p := fun j h => by rw [hL j] at h; cases h
    refine ⟨upd (fun _ => undef) 2 (.map none), rfl, (Mod.refl _ _).drew, fun p _ h => hno _ h, fun k _ _ h => hno _ h, fun k _ h => hno _ h, fun j k _ _ _ h => hno _ h, fun h => hno _ h, fun _ k _ => hL _, fun h => hno _ h, fun h => hno _ h⟩
  · intro listed a w1 i o hsz hI ho hl hpre
    obtain ⟨s, rfl, hI⟩ := hI
    have hilt : i < listed.size := by rw [hsz]; exact (Array.getElem?_eq_some_iff.1 ho).1
    have hset := LOf_set hilt
    have hcx : w1.cell? ⟨w.heap.size, 0, none⟩ = some (at0c bc 0) := cell_of_block (hI.mod.heap (heap_alloc_new w _) id) 0 rfl
    match i, ho with
    | 0, ho =>
      refine wpOp_step ho (fun K' hK => ?_)
      simp only [List.getElem?_toArray, List.getElem?_cons_zero, Option.some.injEq] at ho
      subst ho
      have hmm := @run_makeMap Tryz.prog
      unfold frameW
      go_simp
      refine hK _ _ ⟨upd s 6 (.map (some w1.heap.size)), rfl, ?_⟩
      rw [hset]
      exact hI.make (lof_no hilt hl)
    | 1, ho =>
      refine wpOp_step ho (fun K' hK => ?_)
      simp only [List.getElem?_toArray, List.getElem?_cons_zero, List.getElem?_cons_succ, Option.some.injEq] at ho
      subst ho
      unfold frameW
      go_simp
      refine hK _ _ ⟨upd s 7 (fServer w.heap.size), rfl, ?_⟩
      rw [hset]
      exact hI.step 1 7 _ (lof_no hilt hl) (by decide) (by decide) (fun _ => rfl) (by decide) (by decide) (by decide) (by simp) (by simp)
    | 2, ho =>
      refine wpOp_step ho (fun K' hK => ?_)
      simp only [List.getElem?_toArray, List.getElem?_cons_zero, List.getElem?_cons_succ, Option.some.injEq] at ho
      subst ho
      have p1 : LOf listed 1 = true := pre_of hpre 1 (by rfl)
      have q7 : s 7 = fServer w.heap.size := hI.fx (1, 7) (by decide) p1
      unfold frameW
      go_simp
      refine hK _ _ ⟨upd s 8 (.agg #[.int .i64 1, .bool true, .bool false, fServer w.heap.size]), (by simp [frameW, upd, q7]), ?_⟩
      rw [hset]
      exact hI.step 2 8 _ (lof_no hilt hl) (by decide) (by decide) (fun _ => rfl) (by decide) (by decide) (by decide) (by simp) (by simp)
    | 3, ho =>
      refine wpOp_step ho (fun K' hK => ?_)
      simp only [List.getElem?_toArray, List.getElem?_cons_zero, List.getElem?_cons_succ, Option.some.injEq] at ho
      subst ho
      have p2 : LOf listed 2 = true := pre_of hpre 2 (by rfl)
      have q8 : s 8 = .agg #[.int .i64 1, .bool true, .bool false, fServer w.heap.size] := hI.fx (2, 8) (by decide) p2
      unfold frameW
      go_simp
      refine hK _ _ ⟨upd s 9 (at0c w1.heap.size 0), (by simp [frameW, upd, q8]), ?_⟩
      rw [hset]
      exact hI.laid 0 (by decide) (lof_no hilt hl) (ins_no hI 0 (by decide) (lof_no hilt hl)) ((Mod.refl _ _).alloc _) _ (Nat.le_refl _) (server_at bc w.heap.size w1)
    | 4, ho =>
      refine wpOp_step ho (fun K' hK => ?_)
      simp only [List.getElem?_toArray, List.getElem?_cons_zero, List.getElem?_cons_succ, Option.some.injEq] at ho
      subst ho
      have p0 : LOf listed 0 = true := pre_of hpre 0 (by rfl)
      have p3 : LOf listed 3 = true := pre_of hpre 3 (by rfl)
      obtain ⟨bM, order, q6, e2, e3, e4, e5, e6⟩ := hI.map p0
      obtain ⟨bw, qw, _, _⟩ : ∃ b, s 9 = at0c b 0 ∧ _ ∧ _ := hI.word 0 (by decide) p3
      have hin := ins_run (k := 0) (by decide) (at0c bw 0) e3 (fun j hj => by have := (e5 j).1 hj; exact this.1) (fun hj => by have := ((e5 0).1 hj).2; rw [show iOp 0 = 4 from rfl, lof_no hilt hl] at this; cases this)
      have hkey : (⟨(keyW 0).toArray⟩ : ByteArray) = ⟨#[115, 101, 114, 118, 101, 114]⟩ := rfl
      rw [hkey] at hin
      replace e3 := hide e3
      replace e5 := hide e5
      replace e6 := hide e6
      unfold frameW
      go_simp
      refine hK _ _ ⟨s, (by simp [frameW, q6, qw]), ?_⟩
      rw [hset]
      refine hI.put 0 (by decide) (lof_no hilt hl) p0 p3 bM order q6 e2 e3.out e4 e5.out e6.out (setO_mod _) ?_
      rw [setO_same _ (lt_of_block e3.out), ents_snoc]
      simp [hkey]
      exact qw.symm
    | 5, ho =>
      refine wpOp_step ho (fun K' hK => ?_)
      simp only [List.getElem?_toArray, List.getElem?_cons_zero, List.getElem?_cons_succ, Option.some.injEq] at ho
      subst ho
      unfold frameW
      go_simp
      refine hK _ _ ⟨upd s 10 (fInto), rfl, ?_⟩
      rw [hset]
      exact hI.step 5 10 _ (lof_no hilt hl) (by decide) (by decide) (fun _ => rfl) (by decide) (by decide) (by decide) (by simp) (by simp)
    | 6, ho =>
      refine wpOp_step ho (fun K' hK => ?_)
      simp only [List.getElem?_toArray, List.getElem?_cons_zero, List.getElem?_cons_succ, Option.some.injEq] at ho
      subst ho
      unfold frameW
      go_simp
      refine hK _ _ ⟨upd s 11 (at0c bc 0), rfl, ?_⟩
      rw [hset]
      exact hI.step 6 11 _ (lof_no hilt hl) (by decide) (by decide) (fun _ => rfl) (by decide) (by decide) (by decide) (by simp) (by simp)
    | 7, ho =>
      refine wpOp_step ho (fun K' hK => ?_)
      simp only [List.getElem?_toArray, List.getElem?_cons_zero, List.getElem?_cons_succ, Option.some.injEq] at ho
      subst ho
      have p6 : LOf listed 6 = true := pre_of hpre 6 (by rfl)
      have q11 : s 11 = at0c bc 0 := hI.fx (6, 11) (by decide) p6
      unfold frameW
      go_simp
      refine hK _ _ ⟨upd s 12 (at0c bc 0), (by simp [frameW, upd, q11]), ?_⟩
      rw [hset]
      exact hI.step 7 12 _ (lof_no hilt hl) (by decide) (by decide) (fun _ => rfl) (by decide) (by decide) (by decide) (by simp) (by simp)
    | 8, ho =>
      refine wpOp_step ho (fun K' hK => ?_)
      simp only [List.getElem?_toArray, List.getElem?_cons_zero, List.getElem?_cons_succ, Option.some.injEq] at ho
      subst ho
      have p7 : LOf listed 7 = true := pre_of hpre 7 (by rfl)
      have q12 : s 12 = at0c bc 0 := hI.fx (7, 12) (by decide) p7
      unfold frameW
      go_simp
      refine hK _ _ ⟨upd s 13 (at0c bc 1), (by simp [frameW, upd, q12]), ?_⟩
      rw [hset]
      exact hI.step 8 13 _ (lof_no hilt hl) (by decide) (by decide) (fun _ => rfl) (by decide) (by decide) (by decide) (by simp) (by simp)
    | 9, ho =>
      refine wpOp_step ho (fun K' hK => ?_)
      simp only [List.getElem?_toArray, List.getElem?_cons_zero, List.getElem?_cons_succ, Option.some.injEq] at ho
      subst ho
      have p8 : LOf listed 8 = true := pre_of hpre 8 (by rfl)
      have q13 : s 13 = at0c bc 1 := hI.fx (8, 13) (by decide) p8
      unfold frameW
      go_simp
      refine hK _ _ ⟨upd s 14 (.slice (some ⟨w1.heap.size, 0, none⟩) 1 1), (by simp [frameW, upd, q13]), ?_⟩
      rw [hset]
      exact hI.row 1 (by decide) (by decide) (lof_no hilt hl)
    | 10, ho =>
      refine wpOp_step ho (fun K' hK => ?_)
      simp only [List.getElem?_toArray, List.getElem?_cons_zero, List.getElem?_cons_succ, Option.some.injEq] at ho
      subst ho
      have p5 : LOf listed 5 = true := pre_of hpre 5 (by rfl)
      have p9 : LOf listed 9 = true := pre_of hpre 9 (by rfl)
      have q10 : s 10 = fInto := hI.fx (5, 10) (by decide) p5
      obtain ⟨ba, q14, hba⟩ : ∃ b, s 14 = .slice (some ⟨b, 0, none⟩) 1 1 ∧ w1.heap[b]? = some (.cells ((fieldsW 1).map (at0c bc)).toArray 230 (0, 0)) := hI.arr 1 (by decide) (by decide) p9
      have hin := hide (into_any ba 1 w1)
      replace hba := hide hba
      unfold frameW
      go_simp
      refine hin.out.mono ?_
      rintro e w2 ⟨rfl, hw2⟩
      refine hK _ _ ⟨upd s 15 (at0c (w1.heap.size + 1) 0), (by simp [frameW, upd, q10, q14]), ?_⟩
      rw [hset, hw2]
      exact hI.laid 1 (by decide) (lof_no hilt hl) (ins_no hI 1 (by decide) (lof_no hilt hl)) (((Mod.refl _ _).alloc _).alloc _) _ (Nat.le_succ _) (into_at bc w.heap.size 1 (by decide) w1 ba hba.out)
    | 11, ho =>
      refine wpOp_step ho (fun K' hK => ?_)
      simp only [List.getElem?_toArray, List.getElem?_cons_zero, List.getElem?_cons_succ, Option.some.injEq] at ho
      subst ho
      have p0 : LOf listed 0 = true := pre_of hpre 0 (by rfl)
      have p10 : LOf listed 10 = true := pre_of hpre 10 (by rfl)
      obtain ⟨bM, order, q6, e2, e3, e4, e5, e6⟩ := hI.map p0
      obtain ⟨bw, qw, _, _⟩ : ∃ b, s 15 = at0c b 0 ∧ _ ∧ _ := hI.word 1 (by decide) p10
      have hin := ins_run (k := 1) (by decide) (at0c bw 0) e3 (fun j hj => by have := (e5 j).1 hj; exact this.1) (fun hj => by have := ((e5 1).1 hj).2; rw [show iOp 1 = 11 from rfl, lof_no hilt hl] at this; cases this)
      have hkey : (⟨(keyW 1).toArray⟩ : ByteArray) = ⟨#[113, 117, 111, 114, 117, 109]⟩ := rfl
      rw [hkey] at hin
      replace e3 := hide e3
      replace e5 := hide e5
      replace e6 := hide e6
      unfold frameW
      go_simp
      refine hK _ _ ⟨s, (by simp [frameW, q6, qw]), ?_⟩
      rw [hset]
      refine hI.put 1 (by decide) (lof_no hilt hl) p0 p10 bM order q6 e2 e3.out e4 e5.out e6.out (setO_mod _) ?_
      rw [setO_same _ (lt_of_block e3.out), ents_snoc]
      simp [hkey]
      exact qw.symm
    | 12, ho =>
      refine wpOp_step ho (fun K' hK => ?_)
      simp only [List.getElem?_toArray, List.getElem?_cons_zero, List.getElem?_cons_succ, Option.some.injEq] at ho
      subst ho
      unfold frameW
      go_simp
      refine hK _ _ ⟨upd s 16 (fInto), rfl, ?_⟩
      rw [hset]
      exact hI.step 12 16 _ (lof_no hilt hl) (by decide) (by decide) (fun _ => rfl) (by decide) (by decide) (by decide) (by simp) (by simp)
    | 13, ho =>
      refine wpOp_step ho (fun K' hK => ?_)
      simp only [List.getElem?_toArray, List.getElem?_cons_zero, List.getElem?_cons_succ, Option.some.injEq] at ho
      subst ho
      unfold frameW
      go_simp
      refine hK _ _ ⟨upd s 17 (at0c bc 0), rfl, ?_⟩
      rw [hset]
      exact hI.step 13 17 _ (lof_no hilt hl) (by decide) (by decide) (fun _ => rfl) (by decide) (by decide) (by decide) (by simp) (by simp)
    | 14, ho =>
      refine wpOp_step ho (fun K' hK => ?_)
      simp only [List.getElem?_toArray, List.getElem?_cons_zero, List.getElem?_cons_succ, Option.some.injEq] at ho
      subst ho
      have p13 : LOf listed 13 = true := pre_of hpre 13 (by rfl)
      have q17 : s 17 = at0c bc 0 := hI.fx (13, 17) (by decide) p13
      unfold frameW
      go_simp
      refine hK _ _ ⟨upd s 18 (at0c bc 0), (by simp [frameW, upd, q17]), ?_⟩
      rw [hset]
      exact hI.step 14 18 _ (lof_no hilt hl) (by decide) (by decide) (fun _ => rfl) (by decide) (by decide) (by decide) (by simp) (by simp)
    | 15, ho =>
      refine wpOp_step ho (fun K' hK => ?_)
      simp only [List.getElem?_toArray, List.getElem?_cons_zero, List.getElem?_cons_succ, Option.some.injEq] at ho
      subst ho
      have p14 : LOf listed 14 = true := pre_of hpre 14 (by rfl)
      have q18 : s 18 = at0c bc 0 := hI.fx (14, 18) (by decide) p14
      unfold frameW
      go_simp
      refine hK _ _ ⟨upd s 19 (at0c bc 2), (by simp [frameW, upd, q18]), ?_⟩
      rw [hset]
      exact hI.step 15 19 _ (lof_no hilt hl) (by decide) (by decide) (fun _ => rfl) (by decide) (by decide) (by decide) (by simp) (by simp)
    | 16, ho =>
      refine wpOp_step ho (fun K' hK => ?_)
      simp only [List.getElem?_toArray, List.getElem?_cons_zero, List.getElem?_cons_succ, Option.some.injEq] at ho
      subst ho
      unfold frameW
      go_simp
      refine hK _ _ ⟨upd s 20 (at0c bc 0), rfl, ?_⟩
      rw [hset]
      exact hI.step 16 20 _ (lof_no hilt hl) (by decide) (by decide) (fun _ => rfl) (by decide) (by decide) (by decide) (by simp) (by simp)
    | 17, ho =>
      refine wpOp_step ho (fun K' hK => ?_)
      simp only [List.getElem?_toArray, List.getElem?_cons_zero, List.getElem?_cons_succ, Option.some.injEq] at ho
      subst ho
      have p16 : LOf listed 16 = true := pre_of hpre 16 (by rfl)
      have q20 : s 20 = at0c bc 0 := hI.fx (16, 20) (by decide) p16
      unfold frameW
      go_simp
      refine hK _ _ ⟨upd s 21 (at0c bc 0), (by simp [frameW, upd, q20]), ?_⟩
      rw [hset]
      exact hI.step 17 21 _ (lof_no hilt hl) (by decide) (by decide) (fun _ => rfl) (by decide) (by decide) (by decide) (by simp) (by simp)
    | 18, ho =>
      refine wpOp_step ho (fun K' hK => ?_)
      simp only [List.getElem?_toArray, List.getElem?_cons_zero, List.getElem?_cons_succ, Option.some.injEq] at ho
      subst ho
      have p17 : LOf listed 17 = true := pre_of hpre 17 (by rfl)
      have q21 : s 21 = at0c bc 0 := hI.fx (17, 21) (by decide) p17
      unfold frameW
      go_simp
      refine hK _ _ ⟨upd s 22 (at0c bc 3), (by simp [frameW, upd, q21]), ?_⟩
      rw [hset]
      exact hI.step 18 22 _ (lof_no hilt hl) (by decide) (by decide) (fun _ => rfl) (by decide) (by decide) (by decide) (by simp) (by simp)
    | 19, ho =>
      refine wpOp_step ho (fun K' hK => ?_)
      simp only [List.getElem?_toArray, List.getElem?_cons_zero, List.getElem?_cons_succ, Option.some.injEq] at ho
      subst ho
      have p15 : LOf listed 15 = true := pre_of hpre 15 (by rfl)
      have p18 : LOf listed 18 = true := pre_of hpre 18 (by rfl)
      have q19 : s 19 = at0c bc 2 := hI.fx (15, 19) (by decide) p15
      have q22 : s 22 = at0c bc 3 := hI.fx (18, 22) (by decide) p18
      unfold frameW
      go_simp
      refine hK _ _ ⟨upd s 23 (.slice (some ⟨w1.heap.size, 0, none⟩) 2 2), (by simp [frameW, upd, q19, q22]), ?_⟩
      rw [hset]
      exact hI.row 2 (by decide) (by decide) (lof_no hilt hl)
    | 20, ho =>
      refine wpOp_step ho (fun K' hK => ?_)
      simp only [List.getElem?_toArray, List.getElem?_cons_zero, List.getElem?_cons_succ, Option.some.injEq] at ho
      subst ho
      have p12 : LOf listed 12 = true := pre_of hpre 12 (by rfl)
      have p19 : LOf listed 19 = true := pre_of hpre 19 (by rfl)
      have q16 : s 16 = fInto := hI.fx (12, 16) (by decide) p12
      obtain ⟨ba, q23, hba⟩ : ∃ b, s 23 = .slice (some ⟨b, 0, none⟩) 2 2 ∧ w1.heap[b]? = some (.cells ((fieldsW 2).map (at0c bc)).toArray 230 (0, 0)) := hI.arr 2 (by decide) (by decide) p19
      have hin := hide (into_any ba 2 w1)
      replace hba := hide hba
      unfold frameW
      go_simp
      refine hin.out.mono ?_
      rintro e w2 ⟨rfl, hw2⟩
      refine hK _ _ ⟨upd s 24 (at0c (w1.heap.size + 1) 0), (by simp [frameW, upd, q16, q23]), ?_⟩
      rw [hset, hw2]
      exact hI.laid 2 (by decide) (lof_no hilt hl) (ins_no hI 2 (by decide) (lof_no hilt hl)) (((Mod.refl _ _).alloc _).alloc _) _ (Nat.le_succ _) (into_at bc w.heap.size 2 (by decide) w1 ba hba.out)
    | 21, ho =>
      refine wpOp_step ho (fun K' hK => ?_)
      simp only [List.getElem?_toArray, List.getElem?_cons_zero, List.getElem?_cons_succ, Option.some.injEq] at ho
      subst ho
      have p0 : LOf listed 0 = true := pre_of hpre 0 (by rfl)
      have p20 : LOf listed 20 = true := pre_of hpre 20 (by rfl)
      obtain ⟨bM, order, q6, e2, e3, e4, e5, e6⟩ := hI.map p0
      obtain ⟨bw, qw, _, _⟩ : ∃ b, s 24 = at0c b 0 ∧ _ ∧ _ := hI.word 2 (by decide) p20
      have hin := ins_run (k := 2) (by decide) (at0c bw 0) e3 (fun j hj => by have := (e5 j).1 hj; exact this.1) (fun hj => by have := ((e5 2).1 hj).2; rw [show iOp 2 = 21 from rfl, lof_no hilt hl] at this; cases this)
      have hkey : (⟨(keyW 2).toArray⟩ : ByteArray) = ⟨#[112, 111, 108, 108]⟩ := rfl
      rw [hkey] at hin
      replace e3 := hide e3
      replace e5 := hide e5
      replace e6 := hide e6
      unfold frameW
      go_simp
      refine hK _ _ ⟨s, (by simp [frameW, q6, qw]), ?_⟩
      rw [hset]
      refine hI.put 2 (by decide) (lof_no hilt hl) p0 p20 bM order q6 e2 e3.out e4 e5.out e6.out (setO_mod _) ?_
      rw [setO_same _ (lt_of_block e3.out), ents_snoc]
      simp [hkey]
      exact qw.symm
    | 22, ho =>
      refine wpOp_step ho (fun K' hK => ?_)
      simp only [List.getElem?_toArray, List.getElem?_cons_zero, List.getElem?_cons_succ, Option.some.injEq] at ho
      subst ho
      unfold frameW
      go_simp
      refine hK _ _ ⟨upd s 25 (fInto), rfl, ?_⟩
      rw [hset]
      exact hI.step 22 25 _ (lof_no hilt hl) (by decide) (by decide) (fun _ => rfl) (by decide) (by decide) (by decide) (by simp) (by simp)
    | 23, ho =>
      refine wpOp_step ho (fun K' hK => ?_)
      simp only [List.getElem?_toArray, List.getElem?_cons_zero, List.getElem?_cons_succ, Option.some.injEq] at ho
      subst ho
      unfold frameW
      go_simp
      refine hK _ _ ⟨upd s 26 (at0c bc 0), rfl, ?_⟩
      rw [hset]
      exact hI.step 23 26 _ (lof_no hilt hl) (by decide) (by decide) (fun _ => rfl) (by decide) (by decide) (by decide) (by simp) (by simp)
    | 24, ho =>
      refine wpOp_step ho (fun K' hK => ?_)
      simp only [List.getElem?_toArray, List.getElem?_cons_zero, List.getElem?_cons_succ, Option.some.injEq] at ho
      subst ho
      have p23 : LOf listed 23 = true := pre_of hpre 23 (by rfl)
      have q26 : s 26 = at0c bc 0 := hI.fx (23, 26) (by decide) p23
      unfold frameW
      go_simp
      refine hK _ _ ⟨upd s 27 (at0c bc 0), (by simp [frameW, upd, q26]), ?_⟩
      rw [hset]
      exact hI.step 24 27 _ (lof_no hilt hl) (by decide) (by decide) (fun _ => rfl) (by decide) (by decide) (by decide) (by simp) (by simp)
    | 25, ho =>
      refine wpOp_step ho (fun K' hK => ?_)
      simp only [List.getElem?_toArray, List.getElem?_cons_zero, List.getElem?_cons_succ, Option.some.injEq] at ho
      subst ho
      have p24 : LOf listed 24 = true := pre_of hpre 24 (by rfl)
      have q27 : s 27 = at0c bc 0 := hI.fx (24, 27) (by decide) p24
      unfold frameW
      go_simp
      refine hK _ _ ⟨upd s 28 (at0c bc 4), (by simp [frameW, upd, q27]), ?_⟩
      rw [hset]
      exact hI.step 25 28 _ (lof_no hilt hl) (by decide) (by decide) (fun _ => rfl) (by decide) (by decide) (by decide) (by simp) (by simp)
    | 26, ho =>
      refine wpOp_step ho (fun K' hK => ?_)
      simp only [List.getElem?_toArray, List.getElem?_cons_zero, List.getElem?_cons_succ, Option.some.injEq] at ho
      subst ho
      have p25 : LOf listed 25 = true := pre_of hpre 25 (by rfl)
      have q28 : s 28 = at0c bc 4 := hI.fx (25, 28) (by decide) p25
      unfold frameW
      go_simp
      refine hK _ _ ⟨upd s 29 (.slice (some ⟨w1.heap.size, 0, none⟩) 1 1), (by simp [frameW, upd, q28]), ?_⟩
      rw [hset]
      exact hI.row 3 (by decide) (by decide) (lof_no hilt hl)
    | 27, ho =>
      refine wpOp_step ho (fun K' hK => ?_)
      simp only [List.getElem?_toArray, List.getElem?_cons_zero, List.getElem?_cons_succ, Option.some.injEq] at ho
      subst ho
      have p22 : LOf listed 22 = true := pre_of hpre 22 (by rfl)
      have p26 : LOf listed 26 = true := pre_of hpre 26 (by rfl)
      have q25 : s 25 = fInto := hI.fx (22, 25) (by decide) p22
      obtain ⟨ba, q29, hba⟩ : ∃ b, s 29 = .slice (some ⟨b, 0, none⟩) 1 1 ∧ w1.heap[b]? = some (.cells ((fieldsW 3).map (at0c bc)).toArray 230 (0, 0)) := hI.arr 3 (by decide) (by decide) p26
      have hin := hide (into_any ba 1 w1)
      replace hba := hide hba
      unfold frameW
      go_simp
      refine hin.out.mono ?_
      rintro e w2 ⟨rfl, hw2⟩
      refine hK _ _ ⟨upd s 30 (at0c (w1.heap.size + 1) 0), (by simp [frameW, upd, q25, q29]), ?_⟩
      rw [hset, hw2]
      exact hI.laid 3 (by decide) (lof_no hilt hl) (ins_no hI 3 (by decide) (lof_no hilt hl)) (((Mod.refl _ _).alloc _).alloc _) _ (Nat.le_succ _) (into_at bc w.heap.size 3 (by decide) w1 ba hba.out)
    | 28, ho =>
      refine wpOp_step ho (fun K' hK => ?_)
      simp only [List.getElem?_toArray, List.getElem?_cons_zero, List.getElem?_cons_succ, Option.some.injEq] at ho
      subst ho
      have p0 : LOf listed 0 = true := pre_of hpre 0 (by rfl)
      have p27 : LOf listed 27 = true := pre_of hpre 27 (by rfl)
      obtain ⟨bM, order, q6, e2, e3, e4, e5, e6⟩ := hI.map p0
      obtain ⟨bw, qw, _, _⟩ : ∃ b, s 30 = at0c b 0 ∧ _ ∧ _ := hI.word 3 (by decide) p27
      have hin := ins_run (k := 3) (by decide) (at0c bw 0) e3 (fun j hj => by have := (e5 j).1 hj; exact this.1) (fun hj => by have := ((e5 3).1 hj).2; rw [show iOp 3 = 28 from rfl, lof_no hilt hl] at this; cases this)
      have hkey : (⟨(keyW 3).toArray⟩ : ByteArray) = ⟨#[100, 101, 108, 97, 121]⟩ := rfl
      rw [hkey] at hin
      replace e3 := hide e3
      replace e5 := hide e5
      replace e6 := hide e6
      unfold frameW
      go_simp
      refine hK _ _ ⟨s, (by simp [frameW, q6, qw]), ?_⟩
      rw [hset]
      refine hI.put 3 (by decide) (lof_no hilt hl) p0 p27 bM order q6 e2 e3.out e4 e5.out e6.out (setO_mod _) ?_
      rw [setO_same _ (lt_of_block e3.out), ents_snoc]
      simp [hkey]
      exact qw.symm
    | 29, ho =>
      refine wpOp_step ho (fun K' hK => ?_)
      simp only [List.getElem?_toArray, List.getElem?_cons_zero, List.getElem?_cons_succ, Option.some.injEq] at ho
      subst ho
      unfold frameW
      go_simp
      refine hK _ _ ⟨upd s 31 (fInto), rfl, ?_⟩
      rw [hset]
      exact hI.step 29 31 _ (lof_no hilt hl) (by decide) (by decide) (fun _ => rfl) (by decide) (by decide) (by decide) (by simp) (by simp)
    | 30, ho =>
      refine wpOp_step ho (fun K' hK => ?_)
      simp only [List.getElem?_toArray, List.getElem?_cons_zero, List.getElem?_cons_succ, Option.some.injEq] at ho
      subst ho
      unfold frameW
      go_simp
      refine hK _ _ ⟨upd s 32 (at0c bc 0), rfl, ?_⟩
      rw [hset]
      exact hI.step 30 32 _ (lof_no hilt hl) (by decide) (by decide) (fun _ => rfl) (by decide) (by decide) (by decide) (by simp) (by simp)
    | 31, ho =>
      refine wpOp_step ho (fun K' hK => ?_)
      simp only [List.getElem?_toArray, List.getElem?_cons_zero, List.getElem?_cons_succ, Option.some.injEq] at ho
      subst ho
      have p30 : LOf listed 30 = true := pre_of hpre 30 (by rfl)
      have q32 : s 32 = at0c bc 0 := hI.fx (30, 32) (by decide) p30
      unfold frameW
      go_simp
      refine hK _ _ ⟨upd s 33 (at0c bc 0), (by simp [frameW, upd, q32]), ?_⟩
      rw [hset]
      exact hI.step 31 33 _ (lof_no hilt hl) (by decide) (by decide) (fun _ => rfl) (by decide) (by decide) (by decide) (by simp) (by simp)
    | 32, ho =>
      refine wpOp_step ho (fun K' hK => ?_)
      simp only [List.getElem?_toArray, List.getElem?_cons_zero, List.getElem?_cons_succ, Option.some.injEq] at ho
      subst ho
      have p31 : LOf listed 31 = true := pre_of hpre 31 (by rfl)
      have q33 : s 33 = at0c bc 0 := hI.fx (31, 33) (by decide) p31
      unfold frameW
      go_simp
      refine hK _ _ ⟨upd s 34 (at0c bc 5), (by simp [frameW, upd, q33]), ?_⟩
      rw [hset]
      exact hI.step 32 34 _ (lof_no hilt hl) (by decide) (by decide) (fun _ => rfl) (by decide) (by decide) (by decide) (by simp) (by simp)
    | 33, ho =>
      refine wpOp_step ho (fun K' hK => ?_)
      simp only [List.getElem?_toArray, List.getElem?_cons_zero, List.getElem?_cons_succ, Option.some.injEq] at ho
      subst ho
      have p32 : LOf listed 32 = true := pre_of hpre 32 (by rfl)
      have q34 : s 34 = at0c bc 5 := hI.fx (32, 34) (by decide) p32
      unfold frameW
      go_simp
      refine hK _ _ ⟨upd s 35 (.slice (some ⟨w1.heap.size, 0, none⟩) 1 1), (by simp [frameW, upd, q34]), ?_⟩
      rw [hset]
      exact hI.row 4 (by decide) (by decide) (lof_no hilt hl)
    | 34, ho =>
      refine wpOp_step ho (fun K' hK => ?_)
      simp only [List.getElem?_toArray, List.getElem?_cons_zero, List.getElem?_cons_succ, Option.some.injEq] at ho
      subst ho
      have p29 : LOf listed 29 = true := pre_of hpre 29 (by rfl)
      have p33 : LOf listed 33 = true := pre_of hpre 33 (by rfl)
      have q31 : s 31 = fInto := hI.fx (29, 31) (by decide) p29
      obtain ⟨ba, q35, hba⟩ : ∃ b, s 35 = .slice (some ⟨b, 0, none⟩) 1 1 ∧ w1.heap[b]? = some (.cells ((fieldsW 4).map (at0c bc)).toArray 230 (0, 0)) := hI.arr 4 (by decide) (by decide) p33
      have hin := hide (into_any ba 1 w1)
      replace hba := hide hba
      unfold frameW
      go_simp
      refine hin.out.mono ?_
      rintro e w2 ⟨rfl, hw2⟩
      refine hK _ _ ⟨upd s 36 (at0c (w1.heap.size + 1) 0), (by simp [frameW, upd, q31, q35]), ?_⟩
      rw [hset, hw2]
      exact hI.laid 4 (by decide) (lof_no hilt hl) (ins_no hI 4 (by decide) (lof_no hilt hl)) (((Mod.refl _ _).alloc _).alloc _) _ (Nat.le_succ _) (into_at bc w.heap.size 4 (by decide) w1 ba hba.out)
    | 35, ho =>
      refine wpOp_step ho (fun K' hK => ?_)
      simp only [List.getElem?_toArray, List.getElem?_cons_zero, List.getElem?_cons_succ, Option.some.injEq] at ho
      subst ho
      have p0 : LOf listed 0 = true := pre_of hpre 0 (by rfl)
      have p34 : LOf listed 34 = true := pre_of hpre 34 (by rfl)
      obtain ⟨bM, order, q6, e2, e3, e4, e5, e6⟩ := hI.map p0
      obtain ⟨bw, qw, _, _⟩ : ∃ b, s 36 = at0c b 0 ∧ _ ∧ _ := hI.word 4 (by decide) p34
      have hin := ins_run (k := 4) (by decide) (at0c bw 0) e3 (fun j hj => by have := (e5 j).1 hj; exact this.1) (fun hj => by have := ((e5 4).1 hj).2; rw [show iOp 4 = 35 from rfl, lof_no hilt hl] at this; cases this)
      have hkey : (⟨(keyW 4).toArray⟩ : ByteArray) = ⟨#[115, 108, 101, 119]⟩ := rfl
      rw [hkey] at hin
      replace e3 := hide e3
      replace e5 := hide e5
      replace e6 := hide e6
      unfold frameW
      go_simp
      refine hK _ _ ⟨s, (by simp [frameW, q6, qw]), ?_⟩
      rw [hset]
      refine hI.put 4 (by decide) (lof_no hilt hl) p0 p34 bM order q6 e2 e3.out e4 e5.out e6.out (setO_mod _) ?_
      rw [setO_same _ (lt_of_block e3.out), ents_snoc]
      simp [hkey]
      exact qw.symm
    | 36, ho =>
      refine wpOp_step ho (fun K' hK => ?_)
      simp only [List.getElem?_toArray, List.getElem?_cons_zero, List.getElem?_cons_succ, Option.some.injEq] at ho
      subst ho
      have p0 : LOf listed 0 = true := pre_of hpre 0 (by rfl)
      have q := p0
      unfold frameW
      go_simp
      refine hK _ _ ⟨upd s 37 (s 6), rfl, ?_⟩
      rw [hset]
      exact hI.step 36 37 _ (lof_no hilt hl) (by decide) (by decide) (fun ⟨p, hp, e⟩ => absurd e (by revert p; decide)) (by decide) (by decide) (by decide) (by simp [q]) (by simp)
    | 37, ho =>
      refine wpOp_step ho (fun K' hK => ?_)
      simp only [List.getElem?_toArray, List.getElem?_cons_zero, List.getElem?_cons_succ, Option.some.injEq] at ho
      subst ho
      have p36 : LOf listed 36 = true := pre_of hpre 36 (by rfl)
      have q := p36
      unfold frameW
      go_simp
      refine hK _ _ ⟨upd s 2 (s 37), rfl, ?_⟩
      rw [hset]
      exact hI.step 37 2 _ (lof_no hilt hl) (by decide) (by decide) (fun ⟨p, hp, e⟩ => absurd e (by revert p; decide)) (by decide) (by decide) (by decide) (by simp) (by simp [q])
    | (n + 38), ho => simp at ho
  · intro listed a w1 hsz hall hI
    obtain ⟨s, rfl, hI⟩ := hI
    have hL : ∀ j, j < 38 → LOf listed j = true := fun j hj => by
      have h38 : listed.size = 38 := hsz
      have hj2 : j < listed.size := by omega
      have := hall j (by rw [← hsz]; exact hj2)
      unfold LOf
      simpa [hj2] using this
    have hio : ∀ k, k < 5 → iOp k < 38 ∧ wOp k < 38 := by decide
    obtain ⟨bM, order, e1, e2, e3, e4, e5, e6⟩ := hI.map (hL 0 (by omega))
    have q37 := (hI.m36 (hL 36 (by omega))).1
    have q2 : s 2 = .map (some bM) := by rw [(hI.m37 (hL 37 (by omega))).1, q37, e1]
    have hw := fun k (hk : k < 5) => hI.word k hk (hL _ (hio k hk).2)
    have hap := fun j k (hj : j < 5) (hk : k < 5) (hjk : j ≠ k) => hI.apart j k hj hk hjk (hL _ (hio j hj).2) (hL _ (hio k hk).2)
    have hbx := hI.mod.heap (heap_alloc_new w (.cells #[at0c bc 0] 144)) id
    have hmod := (Mod.refl NoB w).alloc (.cells #[at0c bc 0] 144) |>.trans hI.mod
    have hz : (w.alloc (.cells #[at0c bc 0] 144)).heap.size = w.heap.size + 1 := World.size_alloc _ _
    rw [hz] at e2
    have hout : WordsOut bc w (.returned (.map (some bM))) w1 := by
      refine ⟨bM, fun k => if h : k < 5 then Classical.choose (hw k h) else 0, order, rfl, by omega, ?_, e4, ?_, hbx, ?_, ?_, hmod⟩
      · rw [e3]
        congr 3
        refine ents_congr fun k hk => ?_
        have hk5 := ((e5 k).1 hk).1
        simp only [hk5, dif_pos]
        exact (Classical.choose_spec (hw k hk5)).1
      · intro k
        rw [e5 k]
        exact ⟨fun h => h.1, fun h => ⟨h, hL _ (hio k h).1⟩⟩
      · intro k hk
        simp only [hk, dif_pos]
        have h1 := Classical.choose_spec (hw k hk)
        have h2 := h1.2.1
        exact ⟨by omega, h1.2.2⟩
      · intro j k hj hk hjk e
        simp only [hj, hk, dif_pos] at e
        refine hap j k hj hk hjk ?_
        rw [(Classical.choose_spec (hw j hj)).1, (Classical.choose_spec (hw k hk)).1, e]
    replace hout := hide hout
    clear hap hw hbx hmod e2 e3 e4 e5 e6 hio hall hI q37 e1 hL
    unfold frameW
    go_wp2
    go_ret
    show WordsOut bc w (.returned (s 2)) w1
    rw [q2]
    exact hout.out
end Go.Proofs.YtpjfiplejhbdfaaGreatDoor

