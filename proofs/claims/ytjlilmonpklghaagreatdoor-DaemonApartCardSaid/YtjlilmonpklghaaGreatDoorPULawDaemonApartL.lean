/- A clock that is set by so much from the beginning on, and servers' stamps that are set by as much, do the same: what is sent, and when. No condition. -/
import Derived.Test.YtjlilmonpklghaaGreatDoorPULawDaemonApartW
import Derived.Test.YtjlilmonpklghaaGreatDoorPUbi
import Derived.Test.YtjlilmonpklghaaGreatDoorPUbj
import Derived.Test.YtjlilmonpklghaaGreatDoorPUam
import Derived.Lay
namespace Go.Proofs.YtjlilmonpklghaaGreatDoor.daemonApart
open Go.ChangeShapes Go.WideShapes Go.ChangeAt Go.RowKit Go.Proofs.YtjlilmonpklghaaGreatDoor
set_option linter.unusedVariables false
set_option linter.unusedSimpArgs false

theorem own : ownKnob Tryz.prog.godebug = none := by kernel_rfl

theorem laid_met (os : Os) : laidMet Tryz.prog Rows.daemonApartRow.laid ((World.laidAll Tryz.prog os Rows.daemonApartRow.laid).forCall (fun _ _ => 0) ⟨#[], #[.string ⟨#[]⟩, .slice none 0 0, .int .i32 0], []⟩).memory :=
  laidMet_laidAll _ (by kernel_rfl) (by kernel_rfl)
theorem reads (os : Os) {H : Type} (enc : TypeId × Value → H) : ∃ places, DataW.whole enc Tryz.prog ((World.laidAll Tryz.prog os Rows.daemonApartRow.laid).forCall (fun _ _ => 0) ⟨#[], #[.string ⟨#[]⟩, .slice none 0 0, .int .i32 0], []⟩).memory Tryz.f4.params.toList Rows.daemonApartSpec.vars false #[.string ⟨#[]⟩, .slice none 0 0, .int .i32 0].toList 8 = some ([.lit (.string []), .nil, .lit (.int .i32 0)], [], places) :=
  ⟨[], by kernel_rfl⟩

set_option maxRecDepth 100000 in
set_option maxHeartbeats 40000000 in
theorem lifted (os : Os) (started : os.Started) (H : Type) (enc : TypeId × Value → H) (F : Stop.Interp) :
    ReturnsInHanded {} Tryz.checked os 4 .any ((OpenSpec.ofChange Rows.daemonApartSpec).preRow enc Tryz.prog Tryz.f4 Rows.daemonApartRow.domain false Rows.daemonApartRow.laid) (((OpenSpec.ofChange Rows.daemonApartSpec).at F).post enc Tryz.prog Tryz.f4 false true false false) := by
  obtain ⟨places, hx⟩ := reads os enc
  refine law_row (C := Tryz.checked) (bt := 4) own started (by as_aux_lemma => kernel_rfl) Tryz.func4 (by as_aux_lemma => kernel_rfl) (by as_aux_lemma => kernel_rfl) (by as_aux_lemma => kernel_rfl) Tryz.underlying4 rfl ?_ rfl
    (witness_row_atRef (enc := enc) (C := Tryz.checked) false (World.laidAll Tryz.prog os Rows.daemonApartRow.laid) #[.string ⟨#[]⟩, .slice none 0 0, .int .i32 0] (World.laidAll_os _ _ _) (by as_aux_lemma => kernel_rfl) (by as_aux_lemma => kernel_rfl) (by as_aux_lemma => kernel_rfl)
      (OpenSpec.preRow_of_cond 8 hx (by as_aux_lemma => kernel_rfl) (fun k hk => by cases hk) (by as_aux_lemma => kernel_rfl) (laid_met os))) ?_
  · intro ds h
    match ds, h with
    | [d0, d1, d2], _ => rfl
  · intro W base args ds ps hval0 hA0 hsz hL hsh
    have hval : ∀ (j : Nat) t v, Tryz.f4.params[j]? = some t → args[j]? = some v → Value.okWide Tryz.prog W .any base t v := hval0
    have hA : DataW.TrodAll enc Tryz.prog W 0 (fun _ => true) true Tryz.f4.params.toList args.toList ds ps := hA0
    have hLd := laidN_of (by simp [Rows.daemonApartRow]) (by simp [Rows.daemonApartRow]) (by simp [Rows.daemonApartRow]) hL
    rw [Tryz.params4] at hA hval
    obtain ⟨v0, v1, v2, d0, d1, d2, p0, p1, p2, rfl, rfl, rfl, h0, h1, h2⟩ := trodAll_three hA
    obtain ⟨l, rfl, wl⟩ := open_bs Tryz.underlying9 (hval 0 _ _ rfl rfl) h0
    obtain ⟨pl, cl, La, rfl, hacts, hcl⟩ := open_acts (hval 1 _ _ rfl rfl) h1
    obtain ⟨sh, rfl, rfl, rfl, wsh⟩ := open_int Tryz.underlying21 (hval 2 _ _ rfl rfl) h2
    exact walk l wl pl cl La hcl sh (bounds_i32 wsh).1 (bounds_i32 wsh).2 W hLd hacts

end Go.Proofs.YtjlilmonpklghaaGreatDoor.daemonApart
