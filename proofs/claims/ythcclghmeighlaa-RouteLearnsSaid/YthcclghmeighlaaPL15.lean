/- The laws of this seat, part PL15: contracts of the functions, plain laws. No conditions. -/
import Derived.Test.YthcclghmeighlaaOwB
set_option linter.unusedSimpArgs false
set_option linter.unusedVariables false
set_option maxRecDepth 100000
namespace Go.Proofs.Ythcclghmeighlaa
open Go.Lift
open Go.ChangeShapes Go.WideShapes Go.ChangeAt Go.RowKit
theorem own5 : ownKnob Try.prog.godebug = none := by kernel_rfl
theorem laidOut5 : laidOutB Try.prog = true := by kernel_rfl
set_option maxRecDepth 100000 in
theorem routeLearns_lifted (os : Os) (started : os.Started) (H : Type) (enc : TypeId × Value → H) :
    ReturnsInHanded {} Try.checked os 5 .any (Rows.routeLearnsSpec.pre6 enc Try.prog Try.f5 Rows.routeLearnsRow.domain false) (Rows.routeLearnsSpec.post enc Try.prog Try.f5 false true false false) := by
  refine returnsInHanded_of_change (C := Try.checked) own5 started (by kernel_rfl) Try.func5
    (ChangeSpec.witness6 (enc := enc) (C := Try.checked) false ⟨#[], #[.slice none 0 0], []⟩ 8 (by kernel_rfl) (by kernel_rfl) (by kernel_rfl) (by kernel_rfl)) ?_
  intro W base args ds gs before hval hW _ _
  exact law_end hT (n := 6) hval hW rfl (fun ds h => by
    match ds, h with
    | [_], _ => rfl) (by kernel_rfl) (t := 4) (by kernel_rfl) (by kernel_rfl) laidOut5 (by kernel_rfl) law5
theorem routeLearns_over : Rows.routeLearnsRow.holds Try.pinned (OpenSpec.ofChange Rows.routeLearnsSpec) :=
  OpenClaim.holds_of_wide 5 Try.f5 rfl rfl rfl rfl rfl rfl rfl ⟨rfl, rfl, rfl, rfl, rfl⟩ rfl rfl rfl rfl rfl (by kernel_rfl) Try.func5 (by kernel_rfl)
    (of_decide_eq_true (by kernel_rfl)) (by unfold Func.isWrapper; first | (rw [if_pos (by decide +kernel)]; kernel_rfl) | (rw [if_neg (by decide +kernel)]; exact ⟨rfl, rfl⟩))
    (fun os started H enc _ => routeLearns_lifted os started H enc)
/-- ████ THE STATEMENT ████ -/
theorem routeLearns_proved : Rows.RouteLearnsSaid := routeLearns_over
#print axioms routeLearns_proved
end Go.Proofs.Ythcclghmeighlaa
