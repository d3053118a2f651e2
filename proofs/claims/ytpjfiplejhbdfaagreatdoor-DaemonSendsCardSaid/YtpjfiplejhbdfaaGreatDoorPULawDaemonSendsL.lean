/- All that is sent are queries to servers of the config, by ticks alone, with the last draw that wasn't 0 as cookie, at least the least number of seconds apart for one server, and none to one that sent a kiss. No condition. -/
import Derived.Test.YtpjfiplejhbdfaaGreatDoorPULawDaemonSendsW
import Derived.Test.YtpjfiplejhbdfaaGreatDoorPUbh
import Derived.Test.YtpjfiplejhbdfaaGreatDoorPUbi
import Derived.Test.YtpjfiplejhbdfaaGreatDoorPUam
import Derived.Lay
namespace Go.Proofs.YtpjfiplejhbdfaaGreatDoor.daemonSends
open Go.ChangeShapes Go.WideShapes Go.ChangeAt Go.RowKit Go.Proofs.YtpjfiplejhbdfaaGreatDoor
set_option linter.unusedVariables false
set_option linter.unusedSimpArgs false

theorem own : ownKnob Tryz.prog.godebug = none := by kernel_rfl

theorem laid_met (os : Os) : laidMet Tryz.prog Rows.daemonSendsRow.laid ((World.laidAll Tryz.prog os Rows.daemonSendsRow.laid).forCall (fun _ _ => 0) ⟨#[], #[.string ⟨#[]⟩, .slice none 0 0], []⟩).memory :=
  laidMet_laidAll _ (by kernel_rfl) (by kernel_rfl)
theorem reads (os : Os) {H : Type} (enc : TypeId × Value → H) : ∃ places, DataW.whole enc Tryz.prog ((World.laidAll Tryz.prog os Rows.daemonSendsRow.laid).forCall (fun _ _ => 0) ⟨#[], #[.string ⟨#[]⟩, .slice none 0 0], []⟩).memory Tryz.f3.params.toList Rows.daemonSendsSpec.vars false #[.string ⟨#[]⟩, .slice none 0 0].toList 8 = some ([.lit (.string []), .nil], [], places) :=
  ⟨[], by kernel_rfl⟩

set_option maxRecDepth 100000 in
set_option maxHeartbeats 40000000 in
theorem lifted (os : Os) (started : os.Started) (H : Type) (enc : TypeId × Value → H) (F : Stop.Interp) :
    ReturnsInHanded {} Tryz.checked os 3 .any ((OpenSpec.ofChange Rows.daemonSendsSpec).preRow enc Tryz.prog Tryz.f3 Rows.daemonSendsRow.domain false Rows.daemonSendsRow.laid) (((OpenSpec.ofChange Rows.daemonSendsSpec).at F).post enc Tryz.prog Tryz.f3 false true false false) := by
  obtain ⟨places, hx⟩ := reads os enc
  refine law_row (C := Tryz.checked) (bt := 4) own started (by as_aux_lemma => kernel_rfl) Tryz.func3 (by as_aux_lemma => kernel_rfl) (by as_aux_lemma => kernel_rfl) (by as_aux_lemma => kernel_rfl) Tryz.underlying4 rfl ?_ rfl
    (witness_row_atRef (enc := enc) (C := Tryz.checked) false (World.laidAll Tryz.prog os Rows.daemonSendsRow.laid) #[.string ⟨#[]⟩, .slice none 0 0] (World.laidAll_os _ _ _) (by as_aux_lemma => kernel_rfl) (by as_aux_lemma => kernel_rfl) (by as_aux_lemma => kernel_rfl)
      (OpenSpec.preRow_of_cond 8 hx (by as_aux_lemma => kernel_rfl) (fun k hk => by cases hk) (by as_aux_lemma => kernel_rfl) (laid_met os))) ?_
  · intro ds h
    match ds, h with
    | [d0, d1], _ => rfl
  · intro W base args ds ps hval0 hA0 hsz hL hsh
    have hval : ∀ (j : Nat) t v, Tryz.f3.params[j]? = some t → args[j]? = some v → Value.okWide Tryz.prog W .any base t v := hval0
    have hA : DataW.TrodAll enc Tryz.prog W 0 (fun _ => true) true Tryz.f3.params.toList args.toList ds ps := hA0
    have hLd := laidN_of (by simp [Rows.daemonSendsRow]) (by simp [Rows.daemonSendsRow]) (by simp [Rows.daemonSendsRow]) hL
    rw [Tryz.params3] at hA hval
    obtain ⟨v0, v1, d0, d1, p0, p1, rfl, rfl, rfl, h0, h1⟩ := trodAll_two hA
    obtain ⟨l, rfl, wl⟩ := open_bs Tryz.underlying9 (hval 0 _ _ rfl rfl) h0
    obtain ⟨pl, cl, La, rfl, hacts, hcl⟩ := open_acts (hval 1 _ _ rfl rfl) h1
    exact walk l wl pl cl La hcl W hLd hacts

end Go.Proofs.YtpjfiplejhbdfaaGreatDoor.daemonSends
