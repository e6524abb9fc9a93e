/- The laws of this seat, part PT10: contracts of the functions, plain laws. No conditions. -/
import Derived.Test.YtmbniilpgbjcfaaGreatOwE
set_option maxRecDepth 100000
namespace Go.Proofs.YtmbniilpgbjcfaaGreat
open Go.Lift
open Go.ChangeShapes Go.WideShapes Go.ChangeAt Go.RowKit
theorem own3 : ownKnob Tryz.prog.godebug = none := by kernel_rfl
theorem laidOut3 : laidOutB Tryz.prog = true := by kernel_rfl
set_option maxRecDepth 100000 in
theorem agreeSteps_lifted (os : Os) (started : os.Started) (H : Type) (enc : TypeId × Value → H) :
    ReturnsInHanded {} Tryz.checked os 3 .any (Rows.agreeStepsSpec.pre6 enc Tryz.prog Tryz.f3 Rows.agreeStepsRow.domain false) (Rows.agreeStepsSpec.post enc Tryz.prog Tryz.f3 false true false false) := by
  refine returnsInHanded_of_change (C := Tryz.checked) own3 started (by kernel_rfl) Tryz.func3
    (ChangeSpec.witness6 (enc := enc) (C := Tryz.checked) false ⟨#[], #[.agg #[.int .i64 0, .int .i64 0, .slice none 0 0, .int .i64 0, .int .i64 0, .slice none 0 0, .slice none 0 0, .slice none 0 0, .int .i64 0, .int .i64 0, .slice none 0 0, .slice none 0 0, .slice none 0 0, .slice none 0 0, .int .i64 0], .slice none 0 0, .agg #[.int .i64 0, .int .i64 0, .int .i64 0, .int .i64 0, .int .i64 0, .slice none 0 0]], []⟩ 8 (by kernel_rfl) (by kernel_rfl) (by kernel_rfl) (by kernel_rfl)) ?_
  intro W base args ds gs before hval hW _ _
  exact law_end hT (n := 6) hval hW rfl (fun ds h => by
    match ds, h with
    | [_, _, _], _ => rfl) (by kernel_rfl) (t := 4) (by kernel_rfl) (by kernel_rfl) laidOut3 (by kernel_rfl) law_AgreeSteps
theorem agreeSteps_over : Rows.agreeStepsRow.holds Tryz.pinned (OpenSpec.ofChange Rows.agreeStepsSpec) :=
  OpenClaim.holds_of_wide 3 Tryz.f3 rfl rfl rfl rfl rfl rfl rfl ⟨rfl, rfl, rfl, rfl, rfl⟩ rfl rfl rfl rfl rfl (by kernel_rfl) Tryz.func3 (by kernel_rfl)
    (of_decide_eq_true (by kernel_rfl)) (by unfold Func.isWrapper; first | (rw [if_pos (by decide +kernel)]; kernel_rfl) | (rw [if_neg (by decide +kernel)]; exact ⟨rfl, rfl⟩))
    (fun os started H enc _ => agreeSteps_lifted os started H enc)
theorem agreeSteps_proved : Rows.AgreeStepsSaid := agreeSteps_over
#print axioms agreeSteps_proved
end Go.Proofs.YtmbniilpgbjcfaaGreat
