/- Words shared by all proofs of this seat: a frame relation on worlds ('Mod'), and the step from a walk to a given law's statement. A law whose row lists package-level variables: what the list gives, and the step from a walk to the row. A slice of integers as an argument that is only read. Slices of the call's own under the frame 'Mod'; append as a step of a region that draws its order. Arrays of integers by value: an element, and '=='. Regions that draw their order, with calls that make memory: one walk in the order of the text (the kit's quiet regions, at the class of the worlds in which nothing old has turned). Regions that draw their order, by what holds of what is done so far: no order is walked. Maps with texts as keys, entry by entry: a key put in, a look. 'for k, v := range m' over a map that nobody writes meanwhile, entry by entry. -/
import Derived.Test.YtdcmjjinmnbaoaaGreatDoorRows
import Derived.WalkKit
import Derived.ProofKit
import Derived.OpenShut
import Derived.Carry
import Derived.SizedLaws
import Derived.Deep.Draws
import Derived.Lib.Hide
import Derived.WalkLawsBesides
import Derived.WalkSpells
import Derived.Outline
import Derived.Deep.DeepFit
import Derived.Deep.QuietTactic
import Derived.BigQuiet
import Derived.Deep.RegionWith
import Derived.Deep.RegionHeld3
import Derived.Deep.DeepHandedRow
import Derived.Lib.LaidTab
import Derived.Sort.Grow
import Derived.Deep.RegionLaw
import Derived.Maps.AppendAt
import Derived.MapKept
import Derived.Maps.RangeRun
namespace Go.Proofs.YtdcmjjinmnbaoaaGreatDoor
open Go.ChangeShapes Go.WideShapes Go.ChangeAt Go.RowKit

/-- An int64's range. -/
abbrev I64 (a : Int) : Prop := -9223372036854775808 ≤ a ∧ a ≤ 9223372036854775807

theorem i64_of_wf {a : Int} (h : (Lit.int .i64 a).wf = true) : I64 a := bounds_i64 h

theorem int_ret {k : IntKind} {a b : Int} (h : a = b) : Ending.returned (.int k a) = .returned (.int k b) := by rw [h]
theorem bool_ret {a b : Bool} (h : a = b) : Ending.returned (.bool a) = .returned (.bool b) := by rw [h]

/-- w' is w, but for the blocks of S and for new blocks. -/
structure Mod (S : Nat → Prop) (w w' : World) : Prop where
  os : w'.os = w.os
  tape : w'.tape = w.tape
  output : w'.output = w.output
  size : w.heap.size ≤ w'.heap.size
  block : ∀ k, k < w.heap.size → ¬ S k → w'.heap[k]? = w.heap[k]?

/-- A fact that the walk shall not use as a rule; '.out' gives it back. -/
theorem hide {p : Prop} (h : p) : Hid p := h

abbrev NoB : Nat → Prop := fun _ => False

theorem Mod.refl (S : Nat → Prop) (w : World) : Mod S w w := ⟨rfl, rfl, rfl, Nat.le_refl _, fun _ _ _ => rfl⟩

theorem Mod.trans {S : Nat → Prop} {a b c : World} (h : Mod S a b) (k : Mod S b c) : Mod S a c :=
  ⟨k.os.trans h.os, k.tape.trans h.tape, k.output.trans h.output, Nat.le_trans h.size k.size,
   fun i hi hn => (k.block i (Nat.lt_of_lt_of_le hi h.size) hn).trans (h.block i hi hn)⟩

theorem Mod.mono {S T : Nat → Prop} {a b : World} (h : Mod S a b) (hs : ∀ k, k < a.heap.size → S k → T k) : Mod T a b :=
  ⟨h.os, h.tape, h.output, h.size, fun k hk hn => h.block k hk fun s => hn (hs k hk s)⟩

theorem Mod.drew {S : Nat → Prop} {a w : World} (h : Mod S a w) : Mod S a w.drew := ⟨h.os, h.tape, h.output, h.size, h.block⟩

theorem Mod.drewN {S : Nat → Prop} {a w : World} (n : Nat) (h : Mod S a w) : Mod S a (w.drewN n) := ⟨h.os, h.tape, h.output, h.size, h.block⟩

theorem Mod.alloc {S : Nat → Prop} {a w : World} (h : Mod S a w) (o : Obj) : Mod S a (w.alloc o) :=
  ⟨h.os, h.tape, h.output, Nat.le_trans h.size (by show _ ≤ (w.heap.push o).size; simp), fun k hk hn => (Below.heap_alloc _ _ _ (Nat.lt_of_lt_of_le hk h.size)).trans (h.block k hk hn)⟩

/-- A store into a block of S, or into a new one. -/
theorem Mod.setCell {S : Nat → Prop} {a w : World} (h : Mod S a w) {p : Addr} (hp : S p.block ∨ a.heap.size ≤ p.block) (u : Value) : Mod S a (w.setCell p u) :=
  ⟨h.os, h.tape, h.output, by simpa [World.setCell] using h.size, fun k hk hn => by
    refine (Below.heap_setCell _ _ _ _ ?_).trans (h.block k hk hn)
    rintro rfl
    rcases hp with hp | hp
    · exact hn hp
    · omega⟩

theorem Mod.set1 {b : Nat} {a w : World} (h : Mod (· = b) a w) (o : Nat) (u : Value) : Mod (· = b) a (w.setCell ⟨b, o, none⟩ u) := h.setCell (Or.inl rfl) u

theorem Mod.heap {S : Nat → Prop} {w w' : World} (h : Mod S w w') {k : Nat} {o : Obj} (ho : w.heap[k]? = some o) (hn : ¬ S k) : w'.heap[k]? = some o := by
  have hk : k < w.heap.size := by
    rcases Nat.lt_or_ge k w.heap.size with h | h
    · exact h
    · rw [Array.getElem?_eq_none h] at ho; cases ho
  exact (h.block k hk hn).trans ho

/-- A call's own frame, inside a longer one: what the call may write is new, or may be written. -/
theorem Mod.into {S T : Nat → Prop} {a w w' : World} (h : Mod S a w) (k : Mod T w w') (ht : ∀ b, T b → S b ∨ a.heap.size ≤ b) : Mod S a w' :=
  ⟨k.os.trans h.os, k.tape.trans h.tape, k.output.trans h.output, Nat.le_trans h.size k.size, fun i hi hn => (k.block i (Nat.lt_of_lt_of_le hi h.size) fun t => (ht i t).elim hn fun x => by omega).trans (h.block i hi hn)⟩

theorem Mod.below {w w' : World} (h : Mod NoB w w') : Below w.heap.size w w' := ⟨h.os, h.tape, h.output, h.size, fun k hk => h.block k hk id⟩

theorem Below.mod {w w' : World} (h : Below w.heap.size w w') : Mod NoB w w' := ⟨h.os, h.tape, h.output, h.size, fun k hk _ => h.block k hk⟩

theorem lt_of_block {w : World} {k : Nat} {o : Obj} (h : w.heap[k]? = some o) : k < w.heap.size := by
  rcases Nat.lt_or_ge k w.heap.size with hk | hk
  · exact hk
  · rw [Array.getElem?_eq_none hk] at h; cases h

/-- A block known whole: its cells. -/
theorem cell_of_block {w : World} {b : Nat} {c : Array Value} {t : TypeId} {fr : Nat × Nat} (h : w.heap[b]? = some (.cells c t fr)) (o : Nat) {v : Value} (hv : c[o]? = some v) :
    w.cell? ⟨b, o, none⟩ = some v := by
  simp [World.cell?, h, hv]

theorem frozen_of_block {w : World} {b : Nat} {c : Array Value} {t : TypeId} (h : w.heap[b]? = some (.cells c t (0, 0))) (o : Nat) :
    w.frozen? ⟨b, o, none⟩ = false := by
  simp [World.frozen?, h]

theorem heap_setCell_eq {w : World} {b o : Nat} {c : Array Value} {t : TypeId} {fr : Nat × Nat} (h : w.heap[b]? = some (.cells c t fr)) (v : Value) :
    (w.setCell ⟨b, o, none⟩ v).heap[b]? = some (.cells (c.setIfInBounds o v) t fr) := by
  simp [World.setCell, Array.getElem?_modify, h]

theorem heap_setCell_ne {w : World} {b : Nat} {a : Addr} (hb : b ≠ a.block) (v : Value) : (w.setCell a v).heap[b]? = w.heap[b]? := by
  simp only [World.setCell, Array.getElem?_modify]
  rw [if_neg (by omega)]

theorem heap_alloc_new (w : World) (o : Obj) : (w.alloc o).heap[w.heap.size]? = some o := by
  show (w.heap.push o)[w.heap.size]? = _
  simp

theorem heap_alloc_old {w : World} {k : Nat} (hk : k < w.heap.size) (o : Obj) : (w.alloc o).heap[k]? = w.heap[k]? := Below.heap_alloc _ _ _ hk

/-- All arguments read behind the call as ahead of it. -/
theorem trodAll_below {H : Type} {enc : TypeId × Value → H} {P : Program} (hl : laidOutB P = true) {W W' : World} (hb : Below W.heap.size W W') :
    ∀ (ts : List TypeId) (vs : List Value) (ds : List (DataW H)) (ps : List MemPlace), (∀ t ∈ ts, P.readableRec t = true ∧ t < P.types.size) →
      DataW.TrodAll enc P W 0 (fun _ => true) true ts vs ds ps → (∀ x ∈ ps, x.block < W.heap.size) →
      DataW.TrodAll enc P W' 0 (fun b => decide (b < W.heap.size)) true ts vs ds ps
  | [], vs, ds, ps, _, h, _ => by
    obtain ⟨rfl, rfl, rfl⟩ := trodAll_nil h
    exact trodAll_mk0
  | t :: ts, vs, ds, ps, ht, h, hlt => by
    obtain ⟨v, vs1, d, ds1, p, q, rfl, rfl, rfl, h1, h2⟩ := trodAll_cons h
    exact trodAll_cons_mk (Below.trod hl (ht t (by simp)).1 (ht t (by simp)).2 h1 hb fun x hx => hlt x (by simp [hx]))
      (trodAll_below hl hb ts vs1 ds1 q (fun u hu => ht u (by simp [hu])) h2 fun x hx => hlt x (by simp [hx]))

/-- A law's step: from the walk ('true, and nothing that was there has turned') to the row's own form. -/
theorem law_lifted {C : Checked} {os : Os} {f : FuncId} {fn : Func} {s : ChangeSpec} {bt : TypeId} {H : Type} {enc : TypeId × Value → H}
    (own : ownKnob C.prog.godebug = none) (started : os.Started) (noInit : C.prog.inits.idxOf? f = none) (hfn : C.prog.funcs[f]? = some fn)
    (hl : laidOutB C.prog = true) (hr : (fn.params.toList.all fun t => C.prog.readableRec t && decide (t < C.prog.types.size)) = true)
    (hrt : fn.resultTypes = #[bt]) (hbt : C.prog.underlying bt = some .bool) (hv : s.vars = [])
    (hs : ∀ ds : List (DataW H), ds.length = fn.params.size → s.fn H ds = { results := [.lit (.bool true)], args := ds })
    (witness : ∃ (w : World) (tape : Tape) (i : Input), w.os = os ∧ (w.forCall tape i).Shaped C.prog ∧ i.vars = [] ∧ Input.okWide C.prog (w.forCall tape i) .any w.heap.size f i ∧
      s.pre6 enc C.prog fn [] false (w.forCall tape i).memory i.args ∧ ({} : Assume).holds C.prog (lone (Frame.enter C.prog f i.args .normal) [] (w.forCall tape i)))
    (walk : ∀ (W : World) (base : Nat) (args : Array Value) (ds : List (DataW H)) (ps : List MemPlace),
      (∀ (j : Nat) t v, fn.params[j]? = some t → args[j]? = some v → Value.okWide C.prog W .any base t v) →
      DataW.TrodAll enc C.prog W 0 (fun _ => true) true fn.params.toList args.toList ds ps →
      (DataW.weightsEach C.prog fn.params.toList ds).all (· ≤ reachBytes) = true →
      Calls C.prog f args W fun e W' => e = .returned (.bool true) ∧ Mod NoB W W') :
    ReturnsInHanded {} C os f .any (s.pre6 enc C.prog fn [] false) (s.post enc C.prog fn false true false false) := by
  refine returnsInHanded_of_change_sized own started noInit hfn witness ?_
  intro W base args ds gs before hval hW _ hsz _
  have hW' := hW
  obtain ⟨p, q, hA, hV, rfl, hfz, hnd⟩ := hW
  rw [hv] at hV
  obtain ⟨rfl, rfl⟩ := trodVars_none hV
  have hvt : s.plain.varTypes C.prog = [] := by simp [ChangeSpec.plain, DataSpec.varTypes, hv]
  rw [hvt, List.append_nil, List.append_nil] at hsz
  refine (walk W base args ds p hval hA hsz).mono fun e W' ⟨he, hm⟩ => ?_
  have hb : Below W.heap.size W W' := hm.below
  have hlen : ds.length = fn.params.size := by
    have : ∀ (ts : List TypeId) (vs : List Value) (ds : List (DataW H)) (ps : List MemPlace), DataW.TrodAll enc C.prog W 0 (fun _ => true) true ts vs ds ps → ds.length = ts.length := by
      intro ts
      induction ts with
      | nil => intro vs ds ps h; obtain ⟨rfl, rfl, rfl⟩ := trodAll_nil h; rfl
      | cons t ts ih => intro vs ds ps h; obtain ⟨v, vs1, d, ds1, p, q, rfl, rfl, rfl, h1, h2⟩ := trodAll_cons h; simp [ih _ _ _ h2]
    rw [this _ _ _ _ hA]; simp
  have hfn2 := hs ds hlen
  simp only [List.append_nil] at hW'
  have hr2 : ∀ t ∈ fn.params.toList, C.prog.readableRec t = true ∧ t < C.prog.types.size := by
    intro t ht
    have := List.all_eq_true.1 hr t ht
    simpa using this
  refine ⟨_, he, ds, [], p, [], p, [], by simpa using hW', ?_, ?_, ?_, hb.frame _, fun h => by cases h⟩
  · rw [List.append_nil, hfn2, hrt]
    exact trodAll_cons_mk (shut_bool hbt true) trodAll_mk0
  · rw [List.append_nil, hfn2]
    exact trodAll_below hl hb _ _ _ _ hr2 hA fun x hx => by simpa using hW'.lt x hx
  · rw [List.append_nil, hfn2, hv]
    rfl

end Go.Proofs.YtdcmjjinmnbaoaaGreatDoor
namespace Go.Proofs.YtdcmjjinmnbaoaaGreatDoor
open Go.RowKit Go.ChangeShapes Go.WideShapes Go.ChangeAt

theorem laid_var0 {P : Program} {W : World} {n : String} {d : DataW Unit} : ∀ {l : List (String × DataW Unit)} {ps : List MemPlace}, DataW.LaidVars P W l ps → (n, d) ∈ l →
    ∃ g t cs fuel p, P.globalNamed n = some g ∧ (P.globals[g]?).map (·.type) = some t ∧ W.var? P n = some cs ∧ DataW.trod (fun _ => ()) P W 0 (fun _ => true) false fuel t cs.toList = some (d, p)
  | (n', d') :: r, ps, h, hm => by
    obtain ⟨g, t, cs, fuel, p, q, h1, h2, h3, h4, h5, _⟩ := h
    rcases List.mem_cons.1 hm with e | e
    · cases e
      exact ⟨g, t, cs, fuel, p, h1, h2, h3, h4⟩
    · exact laid_var0 h5 e

theorem laid_var {P : Program} {W : World} {n : String} {d : DataW Unit} {l : List (String × DataW Unit)} (h : laidMet P l W) (hm : (n, d) ∈ l) :
    ∃ g t cs fuel p, P.globalNamed n = some g ∧ (P.globals[g]?).map (·.type) = some t ∧ W.var? P n = some cs ∧ DataW.trod (fun _ => ()) P W 0 (fun _ => true) false fuel t cs.toList = some (d, p) := by
  obtain ⟨ps, h1, _⟩ := h
  exact laid_var0 h1 hm

theorem laid_tab {P : Program} {W : World} {name : String} {k : IntKind} {zs : List Int} {l : List (String × DataW Unit)} {g : Nat} {t e : TypeId} {n : Nat}
    (hg : P.globalNamed name = some g) (hty : (P.globals[g]?).map (·.type) = some t) (ht : P.underlying t = some (.array n e)) (he : P.underlying e = some (.int k)) (hce : P.cellsOf e = 1) (hct : P.cellsOf t = n)
    (h : laidMet P l W) (hm : (name, Lib.tabData k zs) ∈ l) : Lib.TabIs P W name k zs := by
  obtain ⟨g', t', cs, fuel, p, hg', ht', hvar, hd⟩ := laid_var h hm
  obtain rfl := Option.some.inj (hg.symm.trans hg')
  obtain rfl := Option.some.inj (hty.symm.trans ht')
  unfold Lib.TabIs
  rw [hvar, ← Lib.cells_of_tab ht he hce hct hd]

/-- An array of texts. -/
def strsData {H : Type} (ss : List (List UInt8)) : DataW H := .agg (ss.map fun s => .lit (.string s))

theorem laid_strs {P : Program} {W : World} {name : String} {ss : List (List UInt8)} {l : List (String × DataW Unit)} {g : Nat} {t e : TypeId} {n : Nat}
    (hg : P.globalNamed name = some g) (hty : (P.globals[g]?).map (·.type) = some t) (ht : P.underlying t = some (.array n e)) (he : P.underlying e = some .string) (hce : P.cellsOf e = 1) (hct : P.cellsOf t = n)
    (h : laidMet P l W) (hm : (name, strsData ss) ∈ l) : W.var? P name = some (ss.map fun s => Value.string ⟨s.toArray⟩).toArray := by
  obtain ⟨g', t', cs, fuel, p, hg', ht', hvar, hd⟩ := laid_var h hm
  obtain rfl := Option.some.inj (hg.symm.trans hg')
  obtain rfl := Option.some.inj (hty.symm.trans ht')
  rw [hvar]
  obtain ⟨xs, m, _, hx, hl, hxl, hel⟩ := DataW.trod_array ht hd
  rw [hct] at hl
  have hxs : xs.map (·.1) = ss.map fun s => (DataW.lit (.string s) : DataW Unit) := by
    have := congrArg Prod.fst hx
    simpa [strsData] using this.symm
  have hsl : ss.length = n := by
    have := congrArg List.length hxs
    simp at this
    omega
  congr 1
  apply Array.ext'
  apply List.ext_getElem?
  intro i
  by_cases hi : i < n
  · have h1 := hel i hi
    rw [hce, Nat.mul_one, List.getElem?_eq_getElem (by omega)] at h1
    obtain ⟨s, hc, hs, _⟩ := DataW.trod_string he h1
    have h2 : cs.toList[i]? = some (.string s) := by
      have := congrArg (·[0]?) hc
      simpa [List.getElem?_take, List.getElem?_drop] using this
    have h3 : (xs.map (·.1))[i]? = some (DataW.lit (.string s.data.toList) : DataW Unit) := by
      rw [List.getElem?_map, List.getElem?_eq_getElem (by omega), hs]
      rfl
    rw [hxs] at h3
    simp only [List.getElem?_map, Option.map_eq_some_iff, DataW.lit.injEq, Lit.string.injEq] at h3
    obtain ⟨z, hz, hz2⟩ := h3
    rw [h2]
    simp [hz, hz2]
  · rw [List.getElem?_eq_none (by omega), List.getElem?_eq_none (by simp; omega)]

theorem Mod.var {S : Nat → Prop} {P : Program} {w w' : World} (h : Mod S w w') {name : String} {g : Nat} {cs : Array Value} (hg : P.globalNamed name = some g) (hS : ¬ S g) (hv : w.var? P name = some cs) : w'.var? P name = some cs := by
  simp only [World.var?, hg, Option.bind_some] at hv ⊢
  cases hb : w.heap[g]? with
  | none => simp [hb] at hv
  | some o => rw [h.heap hb hS]; simpa [hb] using hv

theorem var_cell {P : Program} {w : World} {name : String} {g : Nat} {cs : Array Value} (hg : P.globalNamed name = some g) (hv : w.var? P name = some cs) (i : Nat) : w.cell? ⟨g, i, none⟩ = cs[i]? := by
  simp only [World.var?, hg, Option.bind_some] at hv
  cases hb : w.heap[g]? with
  | none => simp [hb] at hv
  | some o => cases o <;> simp_all [World.cell?]

theorem Mod.grow {S : Nat → Prop} {w w' : World} (h : Mod S w w') (os : Array Obj) : Mod S w (Sort.grow w' os) :=
  ⟨h.os, h.tape, h.output, Nat.le_trans h.size (by show _ ≤ (w'.heap ++ os).size; simp), fun k hk hn => by
    show (w'.heap ++ os)[k]? = _
    rw [Array.getElem?_append_left (Nat.lt_of_lt_of_le hk h.size)]
    exact h.block k hk hn⟩

/-- A law's step, where its row lists variables ('laid'). -/
theorem law_row {C : Checked} {os : Os} {f : FuncId} {fn : Func} {s : ChangeSpec} {bt : TypeId} {H : Type} {enc : TypeId × Value → H} {F : Stop.Interp} {laid : List (String × DataW Unit)}
    (own : ownKnob C.prog.godebug = none) (started : os.Started) (noInit : C.prog.inits.idxOf? f = none) (hfn : C.prog.funcs[f]? = some fn)
    (hl : laidOutB C.prog = true) (hr : (fn.params.toList.all fun t => C.prog.readableRec t && decide (t < C.prog.types.size)) = true)
    (hrt : fn.resultTypes = #[bt]) (hbt : C.prog.underlying bt = some .bool) (hv : s.vars = [])
    (hs : ∀ ds : List (DataW H), ds.length = fn.params.size → s.fn H ds = { results := [.lit (.bool true)], args := ds })
    (hlaid : laid.filter (fun x => x.2.handleName?.isSome) = [])
    (witness : ∃ (w : World) (tape : Tape) (i : Input), w.os = os ∧ (w.forCall tape i).Shaped C.prog ∧ i.vars = [] ∧ Input.okWide C.prog (w.forCall tape i) .any w.heap.size f i ∧
      (OpenSpec.ofChange s).preRow enc C.prog fn [] false laid (w.forCall tape i).memory i.args ∧ ({} : Assume).holds C.prog (lone (Frame.enter C.prog f i.args .normal) [] (w.forCall tape i)))
    (walk : ∀ (W : World) (base : Nat) (args : Array Value) (ds : List (DataW H)) (ps : List MemPlace),
      (∀ (j : Nat) t v, fn.params[j]? = some t → args[j]? = some v → Value.okWide C.prog W .any base t v) →
      DataW.TrodAll enc C.prog W 0 (fun _ => true) true fn.params.toList args.toList ds ps →
      (DataW.weightsEach C.prog fn.params.toList ds).all (· ≤ reachBytes) = true → laidMet C.prog laid W → W.ShapedOpen C.prog →
      Calls C.prog f args W fun e W' => e = .returned (.bool true) ∧ Mod NoB W W') :
    ReturnsInHanded {} C os f .any ((OpenSpec.ofChange s).preRow enc C.prog fn [] false laid) (((OpenSpec.ofChange s).at F).post enc C.prog fn false true false false) := by
  refine returnsInHanded_of_row (s := OpenSpec.ofChange s) own started noInit hfn witness ?_
  intro W base args ds gs before hval hW _ _ hsz hL hsh _
  have hW' := hW
  obtain ⟨p, q, hA, hV, rfl, hfz, hnd⟩ := hW
  have hv' : (OpenSpec.ofChange s).vars = [] := hv
  rw [hv'] at hV
  obtain ⟨rfl, rfl⟩ := trodVars_none hV
  have hvt : (OpenSpec.ofChange s).bare.plain.varTypes C.prog = [] := by
    show List.filterMap _ s.vars = []
    rw [hv]; rfl
  rw [hvt, List.append_nil, List.append_nil] at hsz
  have hL' : laidMet C.prog laid W := by
    unfold laidMetH at hL
    rw [hlaid] at hL
    exact hL
  refine (walk W base args ds p hval hA hsz hL' hsh).mono fun e W' ⟨he, hm⟩ => ?_
  have hb : Below W.heap.size W W' := hm.below
  have hlen : ds.length = fn.params.size := by
    have : ∀ (ts : List TypeId) (vs : List Value) (ds : List (DataW H)) (ps : List MemPlace), DataW.TrodAll enc C.prog W 0 (fun _ => true) true ts vs ds ps → ds.length = ts.length := by
      intro ts
      induction ts with
      | nil => intro vs ds ps h; obtain ⟨rfl, rfl, rfl⟩ := trodAll_nil h; rfl
      | cons t ts ih => intro vs ds ps h; obtain ⟨v, vs1, d, ds1, p, q, rfl, rfl, rfl, h1, h2⟩ := trodAll_cons h; simp [ih _ _ _ h2]
    rw [this _ _ _ _ hA]; simp
  have hfn2 := hs ds hlen
  simp only [List.append_nil] at hW'
  have hr2 : ∀ t ∈ fn.params.toList, C.prog.readableRec t = true ∧ t < C.prog.types.size := by
    intro t ht
    have := List.all_eq_true.1 hr t ht
    simpa using this
  have hfn3 : ((OpenSpec.ofChange s).at F).fn H ds = { results := [.lit (.bool true)], args := ds } := hfn2
  have hW2 : DataW.Whole enc C.prog fn.params.toList ((OpenSpec.ofChange s).at F).vars false W args.toList ds [] p := by
    have : DataW.Whole enc C.prog fn.params.toList (OpenSpec.ofChange s).vars false W args.toList ds [] p := by simpa using hW'
    exact this
  refine ⟨_, he, ds, [], p, [], p, [], hW2, ?_, ?_, ?_, hb.frame _, fun h => by cases h⟩
  · rw [List.append_nil, hfn3, hrt]
    exact trodAll_cons_mk (shut_bool hbt true) trodAll_mk0
  · rw [List.append_nil, hfn3]
    exact trodAll_below hl hb _ _ _ _ hr2 hA fun x hx => by simpa using hW'.lt x hx
  · rw [List.append_nil, hfn3]
    show DataW.TrodVars enc C.prog W' _ s.vars [] []
    rw [hv]
    rfl

end Go.Proofs.YtdcmjjinmnbaoaaGreatDoor
namespace Go.Proofs.YtdcmjjinmnbaoaaGreatDoor
open Go.RowKit Go.ChangeShapes Go.WideShapes Go.ChangeAt

/-- x: its place, n: its length, Z: its elements, of kind k. -/
def IntsAt (k : IntKind) (w : World) (x : Option Addr) (n : Nat) (Z : Nat → Int) : Prop :=
  ∀ i, i < n → ∃ b off, x = some ⟨b, off, none⟩ ∧ b < w.heap.size ∧ ∀ j, j < n → w.cell? ⟨b, off + j, none⟩ = some (.int k (Z j))

theorem open_intsAt {H : Type} {enc : TypeId × Value → H} {P : Program} {W : World} {t e : TypeId} {v : Value} {d : DataW H} {p : List MemPlace} {base : Nat} {r : Reach} {k : IntKind}
    (ht : P.underlying t = some (.slice e)) (he : P.underlying e = some (.int k)) (hc : P.cellsOf e = 1) (hv : Value.okWide P W r base t v)
    (h : DataW.Trod enc P W 0 (fun _ => true) true t v d p) :
    ∃ x n cap Z, v = .slice x n cap ∧ n ≤ cap ∧ cap ≤ 9223372036854775807 ∧ IntsAt k W x n Z ∧ ∀ j, j < n → (Lit.int k (Z j)).wf = true := by
  obtain ⟨a0, len, cap, rfl⟩ := okWide_slice ht hv
  obtain ⟨fuel, hf⟩ := h
  rcases open_ints ht he hc hf with ⟨hcs, hx⟩ | ⟨a, len', cap', zs, hcs, _, hl, hm, hz, hx, hcell, hwz⟩
  · simp [Value.cells] at hcs
    obtain ⟨rfl, rfl, rfl⟩ := hcs
    exact ⟨none, 0, 0, fun _ => 0, rfl, Nat.le_refl _, by omega, fun i hi => by omega, fun i hi => by omega⟩
  · simp [Value.cells] at hcs
    obtain ⟨rfl, rfl, rfl⟩ := hcs
    unfold maxLen at hm
    simp only [if_true] at hz
    refine ⟨some a, len, cap, fun j => zs.getD j 0, rfl, hl, by omega, fun i hi => ?_, fun j hj => ?_⟩
    · obtain ⟨b, off, spot⟩ := a
      have h0 := hcell 0 (by omega)
      have hspot : spot = none := by simpa [Addr.add] using World.cell?_spot h0
      subst hspot
      refine ⟨b, off, rfl, ?_, fun j hj => by rw [← Go.WideShapes.add_plain]; exact hcell j (by omega)⟩
      rcases Nat.lt_or_ge b W.heap.size with hb | hb
      · exact hb
      · simp [World.cell?, Addr.add, Array.getElem?_eq_none hb] at h0
    · have hj2 : j < zs.length := by omega
      have : zs.getD j 0 = zs[j] := by simp [List.getD, hj2]
      show (Lit.int k (zs.getD j 0)).wf = true
      rw [this]
      exact hwz _ (List.getElem_mem hj2)

end Go.Proofs.YtdcmjjinmnbaoaaGreatDoor
namespace Go.Proofs.YtdcmjjinmnbaoaaGreatDoor
open Go.RowKit

theorem Mod.grown {S : Nat → Prop} {a w w' : World} {row : Option Nat} (h : Mod S a w) (hg : w.grownBy w' row) (hr : ∀ k, row = some k → a.heap.size ≤ k) : Mod S a w' :=
  ⟨hg.os.trans h.os, hg.tape.trans h.tape, hg.output.trans h.output, Nat.le_trans h.size hg.size, fun k hk hn =>
    (hg.block k (Nat.lt_of_lt_of_le hk h.size) (fun e => by have := hr k e.symm; omega)).trans (h.block k hk hn)⟩

theorem ownsRow_mod {S : Nat → Prop} {w w' : World} {base size n : Nat} {e : TypeId} {v : Value} {xs : List Value} (h : w.ownsRow base e size v n xs) (hm : Mod S w w') (hS : ∀ k, S k → k < base) : w'.ownsRow base e size v n xs := by
  refine ⟨h.1, ?_⟩
  rcases h.2 with h0 | ⟨g, cap, cur, hv, hb, hg, r⟩
  · exact Or.inl h0
  · exact Or.inr ⟨g, cap, cur, hv, hb, hm.heap hg (fun s => by have := hS g s; omega), r⟩

theorem Mod.cellAt {S : Nat → Prop} {w w' : World} (h : Mod S w w') {b o : Nat} {v : Value} (hS : ¬ S b) (hc : w.cell? ⟨b, o, none⟩ = some v) : w'.cell? ⟨b, o, none⟩ = some v := by
  have hlt : b < w.heap.size := by
    rcases Nat.lt_or_ge b w.heap.size with h | h
    · exact h
    · simp [World.cell?, Array.getElem?_eq_none h] at hc
  exact (World.cell?_of_block (w := w) (h.block b hlt hS)).trans hc

/-- append onto a slice of the call's own, as a step of a region that draws its order. -/
theorem step_append_own {P : Program} {ops : Array Oper} {o : Oper} {a : Act} {w : World} {K : Act → World → Prop} {Q : Exit → Act → World → Prop} {E : Prop}
    (hg : o.guard = none) (s x : Operand) (t : TypeId) (ho : o.op = .call { callee := .builtin .append, args := #[s, x], argTypes := #[t, t] })
    (base : Nat) (e : TypeId) (i : TypeInfo) (z : Value) (size bytes : Nat) (ht : P.underlying t = some (.slice e)) (hi : P.info? e = some i) (hz : i.zero = some z)
    (hsize : i.size = size) (hby : i.bytes = bytes) (hzs : z.cells.size = size) (hsz : 0 < size)
    (v : Value) (n : Nat) (xs : List Value) (hs : a.eval s = v) (hown : w.ownsRow base e size v n xs)
    (ad : Addr) (m c : Nat) (news : List Value) (hx : a.eval x = .slice (some ad) m c) (hl : news.length = m * size) (hnews : ∀ j u, news[j]? = some u → w.cell? (ad.add j) = some u) (h1 : ∀ u ∈ news, u.oneCell' = true)
    (h63 : n + m ≤ maxLen) (hbytes : (n + m) * bytes ≤ 140737488355328) (hbase : base ≤ w.heap.size)
    (h : ∀ v' w', w'.ownsRow base e size v' (n + m) (xs ++ news) → w.grownBy w' v.ownBlock → (v' = .slice none 0 0 ↔ v = .slice none 0 0 ∧ m = 0) → K (a.put o.dst v') w') :
    if Region.wanted o (yielded ops a.tmps) = true then Oper.wp P o a w K Q else E := by
  have hw : Region.wanted o (yielded ops a.tmps) = true := by simp [Region.wanted, hg]
  rw [if_pos hw]
  exact wp_append_own w s x t ho base e i z size bytes ht hi hz hsize hby hzs hsz v n xs hs hown ad m c news hx hl hnews h1 h63 hbytes hbase h

end Go.Proofs.YtdcmjjinmnbaoaaGreatDoor
namespace Go.Proofs.YtdcmjjinmnbaoaaGreatDoor
open Go.RowKit

theorem run_index_arr {P : Program} {t e : TypeId} {n : Nat} {k : IntKind} (ht : P.underlying t = some (.array n e)) (he : P.underlying e = some (.int k)) (hs : (P.info? e).map (·.size) = some 1)
    (c : List Value) (hl : c.length = n) (i : Nat) (v : Value) (hv : c[i]? = some v) (w : World) :
    (Instr.index t (.agg c.toArray) (.int .i64 i)).run P w = .ok v w := by
  have hi : i < n := by
    rcases Nat.lt_or_ge i n with h | h
    · exact h
    · rw [List.getElem?_eq_none (by omega)] at hv; cases hv
  cases hq : P.info? e with
  | none => simp [hq] at hs
  | some q =>
    have hq1 : q.size = 1 := by simpa [hq] using hs
    have hagg : (isAgg e).run P w = .ok false w := by
      unfold isAgg
      rw [Sem.run_bind, run_underlying he w]
      rfl
    unfold Instr.index
    simp only [go_sem]
    simp [run_underlying ht, hi, sizeOf, typeInfo, hq, hq1, hagg, hv, go_sem]


/-- '==' of two arrays of integers. -/
theorem run_equalIn_arr {P : Program} {t e : TypeId} {n : Nat} {k : IntKind} (ht : P.underlying t = some (.array n e)) (he : P.underlying e = some (.int k)) (hs : (P.info? e).map (·.size) = some 1)
    (xs ys : List Int) (hx : xs.length = n) (hy : ys.length = n) (d : Nat) (w : World) :
    (Op.equalIn (d + 2) t (.agg (xs.map (Value.int k)).toArray) (.agg (ys.map (Value.int k)).toArray)).run P w = .ok (decide (xs = ys)) w := by
  cases hq : P.info? e with
  | none => simp [hq] at hs
  | some q =>
    have hq1 : q.size = 1 := by simpa [hq] using hs
    have hagg : ∀ w, (isAgg e).run P w = .ok false w := by
      intro w
      unfold isAgg
      rw [Sem.run_bind, run_underlying he w]
      rfl
    rw [Op.equalIn]
    simp [run_underlying ht, sizeOf, typeInfo, hq, hq1, go_sem]
    generalize hb : (fun (i : Nat) (__s : Option Bool × Unit) => (_ : Sem (ForInStep (Option Bool × Unit)))) = body
    have step : ∀ i, i < n → (body i (none, ())).run P w = .ok (if xs[i]? = ys[i]? then ForInStep.yield (none, ()) else ForInStep.done (some false, ())) w := by
      intro i hi
      rw [← hb]
      have e1 : xs[i]? = some (xs[i]'(by omega)) := List.getElem?_eq_getElem (by omega)
      have e2 : ys[i]? = some (ys[i]'(by omega)) := List.getElem?_eq_getElem (by omega)
      simp [hagg, e1, e2, go_sem]
      simp [run_equalIn_int w d e k k _ _ he]
      split <;> simp_all
    have key : ∀ m s, s + m = n → (forIn (List.range' s m) (none, ()) body).run P w = .ok (if xs.drop s = ys.drop s then (none, ()) else (some false, ())) w := by
      intro m
      induction m with
      | zero => intro s h; simp [List.drop_eq_nil_of_le, hx, hy, show n ≤ s by omega]
      | succ m ih =>
        intro s h
        have c1 : xs.drop s = xs[s]'(by omega) :: xs.drop (s + 1) := List.drop_eq_getElem_cons (by omega)
        have c2 : ys.drop s = ys[s]'(by omega) :: ys.drop (s + 1) := List.drop_eq_getElem_cons (by omega)
        have e1 : xs[s]? = some (xs[s]'(by omega)) := List.getElem?_eq_getElem (by omega)
        have e2 : ys[s]? = some (ys[s]'(by omega)) := List.getElem?_eq_getElem (by omega)
        rw [List.range'_succ, List.forIn_cons, Sem.run_bind, step s (by omega), c1, c2, e1, e2]
        by_cases hxy : xs[s]'(by omega) = ys[s]'(by omega)
        · simp only [hxy, if_true, Result.andThen_ok, List.cons.injEq, true_and]
          exact ih (s + 1) (by omega)
        · rw [if_neg (by simpa using hxy), if_neg (fun hh => hxy (List.cons.inj hh).1)]
          rfl
    rw [key n 0 (by omega)]
    by_cases h : xs = ys <;> simp [h]

theorem run_eql_arr {P : Program} {t e : TypeId} {n : Nat} {k : IntKind} (ht : P.underlying t = some (.array n e)) (he : P.underlying e = some (.int k)) (hs : (P.info? e).map (·.size) = some 1)
    (xs ys : List Int) (hx : xs.length = n) (hy : ys.length = n) (w : World) :
    (binOp .eql t (.agg (xs.map (Value.int k)).toArray) (.agg (ys.map (Value.int k)).toArray)).run P w = .ok (.bool (decide (xs = ys))) w := by
  rw [run_eql_struct, run_equalIn_arr ht he hs xs ys hx hy]
  rfl

end Go.Proofs.YtdcmjjinmnbaoaaGreatDoor
namespace Go.Proofs.YtdcmjjinmnbaoaaGreatDoor
open Go.RowKit

theorem lt_of_cell {w : World} {b o : Nat} {v : Value} (h : w.cell? ⟨b, o, none⟩ = some v) : b < w.heap.size := World.block_lt_of_cell? w _ h

/-- A world in which all that lay in w lies as it lay. -/
def Since (w : World) : Type := { w' : World // Mod NoB w w' }

instance (w : World) : Nonempty (Since w) := ⟨⟨w, Mod.refl NoB w⟩⟩

theorem Since.cell {w : World} {b o : Nat} {v : Value} (h : w.cell? ⟨b, o, none⟩ = some v) (x : Since w) : x.1.cell? ⟨b, o, none⟩ = some v := x.2.cellAt id h

theorem Since.call {P : Program} {f : FuncId} {args : Array Value} {w : World} {v : Value} (x : Since w)
    (h : ∀ w', Mod NoB w w' → Calls P f args w' fun e w'' => e = .returned v ∧ Mod NoB w' w'') : Calls P f args x.1 fun e w'' => e = .returned v ∧ ∃ y : Since w, w'' = y.1 :=
  (h x.1 x.2).mono fun _ w'' ⟨h1, h2⟩ => ⟨h1, ⟨w'', x.2.trans h2⟩, rfl⟩

theorem wp_region_mod {P : Program} {id : Nat} {Q : Exit → Act → World → Prop} {a : Act} {w : World} {l : List Oper} (hm : P.follows .mixedOrders = true) (hB : Region.lexB .any l.toArray = true)
    (h : wpQuiet P l.toArray (fun w' => ∃ x : Since w, w' = x.1) (fun a' => ∀ w', (∃ x : Since w, w' = x.1) → Q .normal a' w') l a) : (Code.region id l.toArray true).wp P Q a w :=
  wp_region_quiet (C := fun w' => ∃ x : Since w, w' = x.1) hm hB ⟨⟨w.drew, (Mod.refl NoB w).drew⟩, rfl⟩ (by simpa using h)
end Go.Proofs.YtdcmjjinmnbaoaaGreatDoor
namespace Go.Proofs.YtdcmjjinmnbaoaaGreatDoor
open Go.RowKit

section
variable {P : Program} {ops : Array Oper} {Q : Exit → Act → World → Prop}

/-- Each edge goes to an operation further up. -/
def upward (ops : Array Oper) : Bool := (List.range ops.size).all fun i => ((ops[i]?).map fun o => o.after.all fun e => !Region.binds .any e || decide (e.on < i)).getD true

theorem upward_spec (h : upward ops = true) {i : Nat} {o : Oper} (ho : ops[i]? = some o) : ∀ e ∈ o.after, Region.binds .any e = true → e.on < i := by
  intro e he hb
  unfold upward at h
  have h1 := List.all_eq_true.1 h i (List.mem_range.2 (Array.getElem?_eq_some_iff.1 ho).1)
  rw [ho] at h1
  simp only [Option.map_some, Option.getD_some] at h1
  have h2 := Array.all_eq_true_iff_forall_mem.1 h1 e he
  simpa [hb] using h2

/-- Nothing may come up any more: all is done. -/
theorem all_done (hup : upward ops = true) {listed : Array Bool} (hs : listed.size = ops.size) (h : Region.ready .any ops listed = []) : ∀ i, i < ops.size → listed.getD i true = true := by
  intro i
  induction i using Nat.strongRecOn with
  | _ i ih =>
    intro hi
    cases hl : listed.getD i true with
    | true => rfl
    | false =>
      exfalso
      have hmem : i ∈ Region.ready .any ops listed := by
        unfold Region.ready
        rw [List.mem_filter]
        refine ⟨List.mem_range.2 hi, ?_⟩
        have ho : ops[i]? = some ops[i] := by simp [hi]
        rw [hl, ho]
        simp only [Bool.not_false, Bool.true_and, Option.map_some, Option.getD_some]
        rw [Array.all_eq_true_iff_forall_mem]
        intro e he
        cases hb : Region.binds .any e with
        | false => rfl
        | true =>
          have hlt := upward_spec hup ho e he hb
          have := ih e.on hlt (by omega)
          have hlt2 : e.on < listed.size := by omega
          simp only [Bool.not_true, Bool.false_or]
          simpa [hlt2] using this
      rw [h] at hmem
      cases hmem

/-- What is done: listed. 'I' holds ahead; each operation that may come up keeps it; behind all of them it gives what is asked. -/
theorem wpAny_inv (hup : upward ops = true) (I : Array Bool → Act → World → Prop)
    (hstep : ∀ listed a w i o, listed.size = ops.size → I listed a w → ops[i]? = some o → listed.getD i true = false → (∀ e ∈ o.after, Region.binds .any e = true → listed.getD e.on false = true) →
      wpOp P ops Q i (I (listed.setIfInBounds i true)) a w)
    (hend : ∀ listed a w, listed.size = ops.size → (∀ i, i < ops.size → listed.getD i true = true) → I listed a w → Q .normal a w) :
    ∀ (fuel : Nat) (listed : Array Bool) (a : Act) (w : World), listed.size = ops.size → (∃ n, n ≤ fuel ∧ (listed.toList.count false) = n) → I listed a w → wpAny P .any ops Q fuel listed a w := by
  intro fuel
  induction fuel with
  | zero =>
    intro listed a w hs ⟨n, hn, hc⟩ hI
    obtain rfl : n = 0 := by omega
    have hall : ∀ i, i < ops.size → listed.getD i true = true := by
      intro i hi
      have h0 : false ∉ listed.toList := List.count_eq_zero.1 hc
      have hlt : i < listed.size := by omega
      cases hl : listed.getD i true with
      | true => rfl
      | false =>
        exfalso
        apply h0
        have : listed[i] = false := by simpa [hlt] using hl
        rw [← this]
        exact Array.getElem_mem_toList hlt
    refine ⟨?_, hend _ _ _ hs hall hI⟩
    unfold Region.ready
    rw [List.filter_eq_nil_iff]
    intro i hi
    rw [hall i (List.mem_range.1 hi)]
    simp
  | succ fuel ih =>
    intro listed a w hs ⟨n, hn, hc⟩ hI
    refine ⟨fun h => hend _ _ _ hs (all_done hup hs h) hI, fun i hi => ?_⟩
    obtain ⟨h1, o, ho, h2⟩ := mem_ready.1 hi
    refine wpOp_mono (fun a' w' h => ?_) (hstep listed a w i o hs hI ho h1 h2)
    have hlt : i < listed.size := by rw [hs]; exact (Array.getElem?_eq_some_iff.1 ho).1
    refine ih _ a' w' (by simpa using hs) ⟨_, ?_, rfl⟩ h
    have hli : listed[i] = false := by simpa [hlt] using h1
    have hset : (listed.setIfInBounds i true).toList = listed.toList.set i true := by simp
    rw [hset]
    have := List.count_set (a := true) (b := false) (l := listed.toList) (i := i) (by simpa using hlt)
    rw [this]
    simp [hli, hc]
    omega

theorem wp_region_inv {id : Nat} {a : Act} {w : World} (hm : P.follows .mixedOrders = true) (hup : upward ops = true) (I : Array Bool → Act → World → Prop)
    (h0 : I (Array.replicate ops.size false) a w.drew)
    (hstep : ∀ listed a w i o, listed.size = ops.size → I listed a w → ops[i]? = some o → listed.getD i true = false → (∀ e ∈ o.after, Region.binds .any e = true → listed.getD e.on false = true) →
      wpOp P ops Q i (I (listed.setIfInBounds i true)) a w)
    (hend : ∀ listed a w, listed.size = ops.size → (∀ i, i < ops.size → listed.getD i true = true) → I listed a w → Q .normal a w) : (Code.region id ops true).wp P Q a w :=
  wp_region_any hm (wpAny_inv hup I hstep hend _ _ _ _ (by simp) ⟨_, by simp, rfl⟩ h0)
end
end Go.Proofs.YtdcmjjinmnbaoaaGreatDoor
namespace Go.Proofs.YtdcmjjinmnbaoaaGreatDoor
open Go.RowKit Go.MapKept

/-- Block r, laid anew. -/
def setO (w : World) (r : Nat) (o : Obj) : World := { w with heap := w.heap.setIfInBounds r o }
theorem size_setO (w : World) (r : Nat) (o : Obj) : (setO w r o).heap.size = w.heap.size := by simp [setO]
theorem setO_same {w : World} {r : Nat} (o : Obj) (h : r < w.heap.size) : (setO w r o).heap[r]? = some o := by simp [setO, h]
theorem setO_mod {w : World} {r : Nat} (o : Obj) : Mod (· = r) w (setO w r o) :=
  ⟨rfl, rfl, rfl, by rw [size_setO]; exact Nat.le_refl _, fun k hk hn => by
    show (w.heap.setIfInBounds r o)[k]? = _
    rw [Array.getElem?_setIfInBounds_ne (fun e => hn e.symm)]⟩

variable {P : Program} {t kt et : TypeId}

theorem run_insS (ht : P.underlying t = some (.map kt et)) (hkt : P.underlying kt = some .string) {w : World} {r c : Nat} {es : Array MapEntry} (k : ByteArray) (v : Value) (hb : w.heap[r]? = some (.map es c))
    (hkeys : ∀ x ∈ es.toList, IsKey .string x.key) (hno : ∀ x ∈ es.toList, x.key ≠ .string k) :
    (Instr.mapUpdate t (.map (some r)) (.string k) v).run P w = .ok () (setO w r (.map (es.push { key := .string k, val := v, born := c }) (c + 1))) := by
  have hk : IsKey .string (.string k) := by simp [IsKey]
  have hf : Instr.findNow .string (.string k) es.toList 0 = some none := by
    rcases findNow_spec hk es.toList 0 hkeys with ⟨h, _⟩ | ⟨j, e, _, h2, h3⟩
    · exact h
    · exact absurd h3 (hno e (List.mem_of_getElem? h2))
  have hck : ∀ e, (Instr.checkKey e 10000 kt (.string k)).run P w = .ok () w := fun e => Go.MapKept.run_checkKey hkt hk e 9999
  unfold Instr.mapUpdate
  simp [run_underlying ht, Go.MapKept.run_getObj_map hb, Go.MapKept.run_setObj_map _ hb, hck, run_findKey hkt hf, go_sem]
  rfl

theorem run_lookS (ht : P.underlying t = some (.map kt et)) (hkt : P.underlying kt = some .string) {w : World} {r c : Nat} {es : Array MapEntry} (k : ByteArray) {e : MapEntry} (hb : w.heap[r]? = some (.map es c))
    (hkeys : ∀ x ∈ es.toList, IsKey .string x.key) (hin : e ∈ es.toList) (hek : e.key = .string k) (huniq : ∀ x ∈ es.toList, x.key = .string k → x.val = e.val) :
    (Instr.lookup t (.map (some r)) (.string k) true).run P w = .ok (.tuple #[e.val, .bool true]) w := by
  have hk : IsKey .string (.string k) := by simp [IsKey]
  obtain ⟨j, e', hf, h2, h3⟩ : ∃ j e', Instr.findNow .string (.string k) es.toList 0 = some (some (0 + j, e'.val)) ∧ es.toList[j]? = some e' ∧ e'.key = .string k := by
    rcases findNow_spec hk es.toList 0 hkeys with ⟨_, h⟩ | ⟨j, e', h1, h2, h3⟩
    · exact absurd hek (h e hin)
    · exact ⟨j, e', h1, h2, h3⟩
  have hv := huniq e' (List.mem_of_getElem? h2) h3
  have hck : ∀ e, (Instr.checkKey e 10000 kt (.string k)).run P w = .ok () w := fun e => Go.MapKept.run_checkKey hkt hk e 9999
  unfold Instr.lookup
  simp [run_underlying ht, Go.MapKept.run_getObj_map hb, hck, run_findKey hkt hf, go_sem, hv]

theorem run_lookN (ht : P.underlying t = some (.map kt et)) (hkt : P.underlying kt = some .string) {z : Value} (hz : ∀ w, (zeroValue et).run P w = .ok z w) {w : World} {r c : Nat} {es : Array MapEntry} (k : ByteArray) (hb : w.heap[r]? = some (.map es c))
    (hkeys : ∀ x ∈ es.toList, IsKey .string x.key) (hno : ∀ x ∈ es.toList, x.key ≠ .string k) :
    (Instr.lookup t (.map (some r)) (.string k) true).run P w = .ok (.tuple #[z, .bool false]) w := by
  have hk : IsKey .string (.string k) := by simp [IsKey]
  have hf : Instr.findNow .string (.string k) es.toList 0 = some none := by
    rcases findNow_spec hk es.toList 0 hkeys with ⟨h, _⟩ | ⟨j, e, _, h2, h3⟩
    · exact h
    · exact absurd h3 (hno e (List.mem_of_getElem? h2))
  have hck : ∀ e, (Instr.checkKey e 10000 kt (.string k)).run P w = .ok () w := fun e => Go.MapKept.run_checkKey hkt hk e 9999
  unfold Instr.lookup
  simp [run_underlying ht, Go.MapKept.run_getObj_map hb, hck, run_findKey hkt hf, go_sem, hz]
end Go.Proofs.YtdcmjjinmnbaoaaGreatDoor
namespace Go.Proofs.YtdcmjjinmnbaoaaGreatDoor
open Go.RowKit

/-- The iterator in block r over the map in block bM, whose entries are es; seen: the stamps of those that have come. -/
structure ItAt (w : World) (r bM : Nat) (es : Array MapEntry) (clock : Nat) (seen : Array Nat) : Prop where
  it : ∃ c0, clock ≤ c0 ∧ w.heap[r]? = some (.mapIter (some bM) clock seen c0)
  map : w.heap[bM]? = some (.map es clock)
  old : ∀ x ∈ es.toList, x.born < clock
  apart : (es.toList.map (·.born)).Nodup

theorem ItAt.keep {S : Nat → Prop} {w w' : World} {r bM : Nat} {es : Array MapEntry} {clock : Nat} {seen : Array Nat} (h : ItAt w r bM es clock seen) (hm : Mod S w w') (h1 : ¬ S r) (h2 : ¬ S bM) : ItAt w' r bM es clock seen :=
  let ⟨c0, hc, hi⟩ := h.it
  ⟨⟨c0, hc, hm.heap hi h1⟩, hm.heap h.map h2, h.old, h.apart⟩

/-- How many are still to come. -/
def itLeft (w : World) (bM r : Nat) : Nat :=
  match w.heap[bM]?, w.heap[r]? with
  | some (.map es _), some (.mapIter _ _ seen _) => (leftOf es seen).size
  | _, _ => 0
theorem ItAt.left {w : World} {r bM : Nat} {es : Array MapEntry} {clock : Nat} {seen : Array Nat} (h : ItAt w r bM es clock seen) : itLeft w bM r = (leftOf es seen).size := by
  obtain ⟨c0, _, hi⟩ := h.it
  simp only [itLeft, h.map, hi]

section
variable {P : Program} {w : World} {ops : Array Oper} {rest : List Oper} {o : Oper} {a : Act} {Q : Exit → Act → World → Prop}

theorem wpList_range_raw (hg : o.guard = none) (m : Operand) (t : TypeId) (hop : o.op = Op.range t m) (k e : TypeId) (ht : P.underlying t = some (.map k e)) (bM : Nat) (es : Array MapEntry) (clock : Nat)
    (hm : a.eval m = .map (some bM)) (hb : w.heap[bM]? = some (.map es clock)) (hold : ∀ x ∈ es.toList, x.born < clock) (hap : (es.toList.map (·.born)).Nodup)
    (hK : ∀ w', ItAt w' w.heap.size bM es clock #[] → Mod NoB w w' → w'.heap.size = w.heap.size + 1 → wpList P ops Q rest (a.put o.dst (.pointer (some ⟨w.heap.size, 0, none⟩))) w') :
    wpList P ops Q (o :: rest) a w := by
  refine wpList_plain hg fun K' hK' => ?_
  have hlt := lt_of_block hb
  have hrun := run_range_map w t k e bM es clock ht hb
  unfold Oper.wp
  simp [execOp, hop, hm, hrun, Result.andThen]
  exact hK' _ _ (hK _ ⟨⟨clock, Nat.le_refl _, heap_alloc_new _ _⟩, (heap_alloc_old hlt _).trans hb, hold, hap⟩ ((Mod.refl _ _).alloc _) (by simp))

theorem wpList_next_raw (hg : o.guard = none) (it : Operand) (hop : o.op = Op.next it false) (r bM : Nat) (es : Array MapEntry) (clock : Nat) (seen : Array Nat)
    (hit : a.eval it = .pointer (some ⟨r, 0, none⟩)) (h : ItAt w r bM es clock seen)
    (hDone : (∀ x ∈ es.toList, seen.contains x.born = true) → wpList P ops Q rest (a.put o.dst (.tuple #[.bool false])) w)
    (hMore : ∀ (e : MapEntry) (w' : World), e ∈ es.toList → seen.contains e.born = false → ItAt w' r bM es clock (seen.push e.born) → Mod (· = r) w w' → w'.heap.size = w.heap.size → itLeft w' bM r < itLeft w bM r →
      (Instr.entry (.pointer (some ⟨r, 0, none⟩))).run P w' = .ok (.tuple #[e.key, e.val]) w' → wpList P ops Q rest (a.put o.dst (.tuple #[.bool true, e.key, e.val])) w') :
    wpList P ops Q (o :: rest) a w := by
  refine wpList_plain hg fun K' hK' => ?_
  unfold Oper.wp
  obtain ⟨c0, hc0, hi⟩ := h.it
  have hne : r ≠ bM := fun e => by subst e; rw [h.map] at hi; cases hi
  rcases run_next_at (P := P) w o.type r bM clock c0 seen es clock hi h.map h.old hc0 with ⟨h0, hrun⟩ | ⟨e, he, w1, hal, hrun⟩
  · simp [execOp, hop, hit, hrun, Result.andThen]
    exact hK' _ _ (hDone (all_seen es seen h0))
  · obtain ⟨hem, hes⟩ := mem_left he
    have hm1 : Mod NoB w w1 := by rcases hal with rfl | rfl; exact Mod.refl _ _; exact (Mod.refl _ _).drew
    have hsz1 : w1.heap.size = w.heap.size := by rcases hal with rfl | rfl <;> rfl
    have hi1 := hm1.heap hi id
    have hlt1 := lt_of_block hi1
    have hset : (ChangeMaps.setBlock w1 r (.mapIter (some bM) clock (seen.push e.born) clock)).heap[r]? = some (.mapIter (some bM) clock (seen.push e.born) clock) := by simp [ChangeMaps.setBlock, hlt1]
    have hmod : Mod (· = r) w1 (ChangeMaps.setBlock w1 r (.mapIter (some bM) clock (seen.push e.born) clock)) :=
      ⟨rfl, rfl, rfl, by simp [ChangeMaps.setBlock], fun k hk hn => by simp [ChangeMaps.setBlock]; rw [Array.getElem?_setIfInBounds_ne (fun e => hn e.symm)]⟩
    have hI : ItAt (ChangeMaps.setBlock w1 r (.mapIter (some bM) clock (seen.push e.born) clock)) r bM es clock (seen.push e.born) :=
      ⟨⟨clock, Nat.le_refl _, hset⟩, hmod.heap (hm1.heap h.map id) (fun e => hne e.symm), h.old, h.apart⟩
    simp [execOp, hop, hit, hrun, Result.andThen]
    refine hK' _ _ (hMore e _ hem hes hI ((hm1.mono (fun _ _ f => f.elim)).trans hmod) (by simp [ChangeMaps.setBlock, hsz1]) ?_ (run_entry_at _ r bM clock seen es clock e hset hI.map hem h.apart))
    rw [hI.left, h.left]
    exact left_shrinks es seen e he
end
end Go.Proofs.YtdcmjjinmnbaoaaGreatDoor
