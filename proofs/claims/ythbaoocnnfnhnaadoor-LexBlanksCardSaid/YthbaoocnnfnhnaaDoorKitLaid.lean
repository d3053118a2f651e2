/- A law whose row lists package-level variables: what the list gives, and the step from a walk to the row. -/
import Derived.Test.YthbaoocnnfnhnaaDoorKit
import Derived.Deep.DeepHandedRow
import Derived.Lib.LaidTab
import Derived.Sort.Grow
namespace Go.Proofs.YthbaoocnnfnhnaaDoor
open Go.RowKit Go.ChangeShapes Go.WideShapes Go.ChangeAt

theorem laid_var0 {P : Program} {W : World} {n : String} {d : DataW Unit} : ∀ {l : List (String × DataW Unit)} {ps : List MemPlace}, DataW.LaidVars P W l ps → (n, d) ∈ l →
    ∃ g t cs fuel p, P.globalNamed n = some g ∧ (P.globals[g]?).map (·.type) = some t ∧ W.var? P n = some cs ∧ DataW.trod (fun _ => ()) P W 0 (fun _ => true) false fuel t cs.toList = some (d, p)
  | (n', d') :: r, ps, h, hm => by
    obtain ⟨g, t, cs, fuel, p, q, h1, h2, h3, h4, h5, _⟩ := h
    rcases List.mem_cons.1 hm with e | e
    · cases e
      exact ⟨g, t, cs, fuel, p, h1, h2, h3, h4⟩
    · exact laid_var0 h5 e

theorem laid_var {P : Program} {W : World} {n : String} {d : DataW Unit} {l : List (String × DataW Unit)} (h : laidMet P l W) (hm : (n, d) ∈ l) :
    ∃ g t cs fuel p, P.globalNamed n = some g ∧ (P.globals[g]?).map (·.type) = some t ∧ W.var? P n = some cs ∧ DataW.trod (fun _ => ()) P W 0 (fun _ => true) false fuel t cs.toList = some (d, p) := by
  obtain ⟨ps, h1, _⟩ := h
  exact laid_var0 h1 hm

theorem laid_tab {P : Program} {W : World} {name : String} {k : IntKind} {zs : List Int} {l : List (String × DataW Unit)} {g : Nat} {t e : TypeId} {n : Nat}
    (hg : P.globalNamed name = some g) (hty : (P.globals[g]?).map (·.type) = some t) (ht : P.underlying t = some (.array n e)) (he : P.underlying e = some (.int k)) (hce : P.cellsOf e = 1) (hct : P.cellsOf t = n)
    (h : laidMet P l W) (hm : (name, Lib.tabData k zs) ∈ l) : Lib.TabIs P W name k zs := by
  obtain ⟨g', t', cs, fuel, p, hg', ht', hvar, hd⟩ := laid_var h hm
  obtain rfl := Option.some.inj (hg.symm.trans hg')
  obtain rfl := Option.some.inj (hty.symm.trans ht')
  unfold Lib.TabIs
  rw [hvar, ← Lib.cells_of_tab ht he hce hct hd]

/-- An array of texts. -/
def strsData {H : Type} (ss : List (List UInt8)) : DataW H := .agg (ss.map fun s => .lit (.string s))

theorem laid_strs {P : Program} {W : World} {name : String} {ss : List (List UInt8)} {l : List (String × DataW Unit)} {g : Nat} {t e : TypeId} {n : Nat}
    (hg : P.globalNamed name = some g) (hty : (P.globals[g]?).map (·.type) = some t) (ht : P.underlying t = some (.array n e)) (he : P.underlying e = some .string) (hce : P.cellsOf e = 1) (hct : P.cellsOf t = n)
    (h : laidMet P l W) (hm : (name, strsData ss) ∈ l) : W.var? P name = some (ss.map fun s => Value.string ⟨s.toArray⟩).toArray := by
  obtain ⟨g', t', cs, fuel, p, hg', ht', hvar, hd⟩ := laid_var h hm
  obtain rfl := Option.some.inj (hg.symm.trans hg')
  obtain rfl := Option.some.inj (hty.symm.trans ht')
  rw [hvar]
  obtain ⟨xs, m, _, hx, hl, hxl, hel⟩ := DataW.trod_array ht hd
  rw [hct] at hl
  have hxs : xs.map (·.1) = ss.map fun s => (DataW.lit (.string s) : DataW Unit) := by
    have := congrArg Prod.fst hx
    simpa [strsData] using this.symm
  have hsl : ss.length = n := by
    have := congrArg List.length hxs
    simp at this
    omega
  congr 1
  apply Array.ext'
  apply List.ext_getElem?
  intro i
  by_cases hi : i < n
  · have h1 := hel i hi
    rw [hce, Nat.mul_one, List.getElem?_eq_getElem (by omega)] at h1
    obtain ⟨s, hc, hs, _⟩ := DataW.trod_string he h1
    have h2 : cs.toList[i]? = some (.string s) := by
      have := congrArg (·[0]?) hc
      simpa [List.getElem?_take, List.getElem?_drop] using this
    have h3 : (xs.map (·.1))[i]? = some (DataW.lit (.string s.data.toList) : DataW Unit) := by
      rw [List.getElem?_map, List.getElem?_eq_getElem (by omega), hs]
      rfl
    rw [hxs] at h3
    simp only [List.getElem?_map, Option.map_eq_some_iff, DataW.lit.injEq, Lit.string.injEq] at h3
    obtain ⟨z, hz, hz2⟩ := h3
    rw [h2]
    simp [hz, hz2]
  · rw [List.getElem?_eq_none (by omega), List.getElem?_eq_none (by simp; omega)]

theorem Mod.var {S : Nat → Prop} {P : Program} {w w' : World} (h : Mod S w w') {name : String} {g : Nat} {cs : Array Value} (hg : P.globalNamed name = some g) (hS : ¬ S g) (hv : w.var? P name = some cs) : w'.var? P name = some cs := by
  simp only [World.var?, hg, Option.bind_some] at hv ⊢
  cases hb : w.heap[g]? with
  | none => simp [hb] at hv
  | some o => rw [h.heap hb hS]; simpa [hb] using hv

theorem var_cell {P : Program} {w : World} {name : String} {g : Nat} {cs : Array Value} (hg : P.globalNamed name = some g) (hv : w.var? P name = some cs) (i : Nat) : w.cell? ⟨g, i, none⟩ = cs[i]? := by
  simp only [World.var?, hg, Option.bind_some] at hv
  cases hb : w.heap[g]? with
  | none => simp [hb] at hv
  | some o => cases o <;> simp_all [World.cell?]

theorem Mod.grow {S : Nat → Prop} {w w' : World} (h : Mod S w w') (os : Array Obj) : Mod S w (Sort.grow w' os) :=
  ⟨h.os, h.tape, h.output, Nat.le_trans h.size (by show _ ≤ (w'.heap ++ os).size; simp), fun k hk hn => by
    show (w'.heap ++ os)[k]? = _
    rw [Array.getElem?_append_left (Nat.lt_of_lt_of_le hk h.size)]
    exact h.block k hk hn⟩

/-- A law's step, where its row lists variables ('laid'). -/
theorem law_row {C : Checked} {os : Os} {f : FuncId} {fn : Func} {s : ChangeSpec} {bt : TypeId} {H : Type} {enc : TypeId × Value → H} {F : Stop.Interp} {laid : List (String × DataW Unit)}
    (own : ownKnob C.prog.godebug = none) (started : os.Started) (noInit : C.prog.inits.idxOf? f = none) (hfn : C.prog.funcs[f]? = some fn)
    (hl : laidOutB C.prog = true) (hr : (fn.params.toList.all fun t => C.prog.readableRec t && decide (t < C.prog.types.size)) = true)
    (hrt : fn.resultTypes = #[bt]) (hbt : C.prog.underlying bt = some .bool) (hv : s.vars = [])
    (hs : ∀ ds : List (DataW H), ds.length = fn.params.size → s.fn H ds = { results := [.lit (.bool true)], args := ds })
    (hlaid : laid.filter (fun x => x.2.handleName?.isSome) = [])
    (witness : ∃ (w : World) (tape : Tape) (i : Input), w.os = os ∧ (w.forCall tape i).Shaped C.prog ∧ i.vars = [] ∧ Input.okWide C.prog (w.forCall tape i) .any w.heap.size f i ∧
      (OpenSpec.ofChange s).preRow enc C.prog fn [] false laid (w.forCall tape i).memory i.args ∧ ({} : Assume).holds C.prog (lone (Frame.enter C.prog f i.args .normal) [] (w.forCall tape i)))
    (walk : ∀ (W : World) (base : Nat) (args : Array Value) (ds : List (DataW H)) (ps : List MemPlace),
      (∀ (j : Nat) t v, fn.params[j]? = some t → args[j]? = some v → Value.okWide C.prog W .any base t v) →
      DataW.TrodAll enc C.prog W 0 (fun _ => true) true fn.params.toList args.toList ds ps →
      (DataW.weightsEach C.prog fn.params.toList ds).all (· ≤ reachBytes) = true → laidMet C.prog laid W → W.ShapedOpen C.prog →
      Calls C.prog f args W fun e W' => e = .returned (.bool true) ∧ Mod NoB W W') :
    ReturnsInHanded {} C os f .any ((OpenSpec.ofChange s).preRow enc C.prog fn [] false laid) (((OpenSpec.ofChange s).at F).post enc C.prog fn false true false false) := by
  refine returnsInHanded_of_row (s := OpenSpec.ofChange s) own started noInit hfn witness ?_
  intro W base args ds gs before hval hW _ _ hsz hL hsh _
  have hW' := hW
  obtain ⟨p, q, hA, hV, rfl, hfz, hnd⟩ := hW
  have hv' : (OpenSpec.ofChange s).vars = [] := hv
  rw [hv'] at hV
  obtain ⟨rfl, rfl⟩ := trodVars_none hV
  have hvt : (OpenSpec.ofChange s).bare.plain.varTypes C.prog = [] := by
    show List.filterMap _ s.vars = []
    rw [hv]; rfl
  rw [hvt, List.append_nil, List.append_nil] at hsz
  have hL' : laidMet C.prog laid W := by
    unfold laidMetH at hL
    rw [hlaid] at hL
    exact hL
  refine (walk W base args ds p hval hA hsz hL' hsh).mono fun e W' ⟨he, hm⟩ => ?_
  have hb : Below W.heap.size W W' := hm.below
  have hlen : ds.length = fn.params.size := by
    have : ∀ (ts : List TypeId) (vs : List Value) (ds : List (DataW H)) (ps : List MemPlace), DataW.TrodAll enc C.prog W 0 (fun _ => true) true ts vs ds ps → ds.length = ts.length := by
      intro ts
      induction ts with
      | nil => intro vs ds ps h; obtain ⟨rfl, rfl, rfl⟩ := trodAll_nil h; rfl
      | cons t ts ih => intro vs ds ps h; obtain ⟨v, vs1, d, ds1, p, q, rfl, rfl, rfl, h1, h2⟩ := trodAll_cons h; simp [ih _ _ _ h2]
    rw [this _ _ _ _ hA]; simp
  have hfn2 := hs ds hlen
  simp only [List.append_nil] at hW'
  have hr2 : ∀ t ∈ fn.params.toList, C.prog.readableRec t = true ∧ t < C.prog.types.size := by
    intro t ht
    have := List.all_eq_true.1 hr t ht
    simpa using this
  have hfn3 : ((OpenSpec.ofChange s).at F).fn H ds = { results := [.lit (.bool true)], args := ds } := hfn2
  have hW2 : DataW.Whole enc C.prog fn.params.toList ((OpenSpec.ofChange s).at F).vars false W args.toList ds [] p := by
    have : DataW.Whole enc C.prog fn.params.toList (OpenSpec.ofChange s).vars false W args.toList ds [] p := by simpa using hW'
    exact this
  refine ⟨_, he, ds, [], p, [], p, [], hW2, ?_, ?_, ?_, hb.frame _, fun h => by cases h⟩
  · rw [List.append_nil, hfn3, hrt]
    exact trodAll_cons_mk (shut_bool hbt true) trodAll_mk0
  · rw [List.append_nil, hfn3]
    exact trodAll_below hl hb _ _ _ _ hr2 hA fun x hx => by simpa using hW'.lt x hx
  · rw [List.append_nil, hfn3]
    show DataW.TrodVars enc C.prog W' _ s.vars [] []
    rw [hv]
    rfl

end Go.Proofs.YthbaoocnnfnhnaaDoor
