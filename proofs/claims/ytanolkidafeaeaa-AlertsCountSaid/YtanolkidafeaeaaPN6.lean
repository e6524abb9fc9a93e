/- The laws of this seat, part PN6: contracts of the functions, plain laws. No conditions. -/
import Derived.Test.YtanolkidafeaeaaOwB
set_option linter.unusedSimpArgs false
set_option linter.unusedVariables false
namespace Go.Proofs.Ytanolkidafeaeaa
open Go.Lift
open Go.ChangeShapes Go.WideShapes Go.ChangeAt Go.RowKit
theorem own6 : ownKnob Try.prog.godebug = none := by kernel_rfl
theorem laidOut6 : laidOutB Try.prog = true := by kernel_rfl
set_option maxRecDepth 100000 in
theorem alertsCount_lifted (os : Os) (started : os.Started) (H : Type) (enc : TypeId × Value → H) :
    ReturnsInHanded {} Try.checked os 6 .any (Rows.alertsCountSpec.pre6 enc Try.prog Try.f6 Rows.alertsCountRow.domain false) (Rows.alertsCountSpec.post enc Try.prog Try.f6 false true false false) := by
  refine returnsInHanded_of_change (C := Try.checked) own6 started (by kernel_rfl) Try.func6
    (ChangeSpec.witness6 (enc := enc) (C := Try.checked) false ⟨#[], #[.agg #[.int .i64 0, .slice none 0 0], .slice none 0 0], []⟩ 8 (by kernel_rfl) (by kernel_rfl) (by kernel_rfl) (by kernel_rfl)) ?_
  intro W base args ds gs before hval hW _ _
  exact law_end hT (n := 5) hval hW rfl (fun ds h => by
    match ds, h with
    | [_, _], _ => rfl) (by kernel_rfl) (t := 4) (by kernel_rfl) (by kernel_rfl) laidOut6 (by kernel_rfl) law6
theorem alertsCount_over : Rows.alertsCountRow.holds Try.pinned (OpenSpec.ofChange Rows.alertsCountSpec) :=
  OpenClaim.holds_of_wide 6 Try.f6 rfl rfl rfl rfl rfl rfl rfl ⟨rfl, rfl, rfl, rfl, rfl⟩ rfl rfl rfl rfl rfl (by kernel_rfl) Try.func6 (by kernel_rfl)
    (of_decide_eq_true (by kernel_rfl)) (by unfold Func.isWrapper; first | (rw [if_pos (by decide +kernel)]; kernel_rfl) | (rw [if_neg (by decide +kernel)]; exact ⟨rfl, rfl⟩))
    (fun os started H enc _ => alertsCount_lifted os started H enc)
/-- ████ THE STATEMENT ████ -/
theorem alertsCount_proved : Rows.AlertsCountSaid := alertsCount_over
#print axioms alertsCount_proved
end Go.Proofs.Ytanolkidafeaeaa
