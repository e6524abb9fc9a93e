/- The laws of this seat, part PP5: contracts of the functions, plain laws. No conditions. -/
import Derived.Test.YtdajfimollbnlaaOwB
set_option linter.unusedSimpArgs false
set_option linter.unusedVariables false
namespace Go.Proofs.Ytdajfimollbnlaa
open Go.Lift
open Go.ChangeShapes Go.WideShapes Go.ChangeAt Go.RowKit
theorem own6 : ownKnob Try.prog.godebug = none := by kernel_rfl
theorem laidOut6 : laidOutB Try.prog = true := by kernel_rfl
set_option maxRecDepth 100000 in
theorem probePlays_lifted (os : Os) (started : os.Started) (H : Type) (enc : TypeId × Value → H) :
    ReturnsInHanded {} Try.checked os 6 .any (Rows.probePlaysSpec.pre6 enc Try.prog Try.f6 Rows.probePlaysRow.domain false) (Rows.probePlaysSpec.post enc Try.prog Try.f6 false true false false) := by
  refine returnsInHanded_of_change (C := Try.checked) own6 started (by kernel_rfl) Try.func6
    (ChangeSpec.witness6 (enc := enc) (C := Try.checked) false ⟨#[], #[.agg #[.int .i64 0, .slice none 0 0], .int .i64 0, .slice none 0 0], []⟩ 8 (by kernel_rfl) (by kernel_rfl) (by kernel_rfl) (by kernel_rfl)) ?_
  intro W base args ds gs before hval hW _ _
  exact law_end hT (n := 6) hval hW rfl (fun ds h => by
    match ds, h with
    | [_, _, _], _ => rfl) (by kernel_rfl) (t := 4) (by kernel_rfl) (by kernel_rfl) laidOut6 (by kernel_rfl) law6
theorem probePlays_over : Rows.probePlaysRow.holds Try.pinned (OpenSpec.ofChange Rows.probePlaysSpec) :=
  OpenClaim.holds_of_wide 6 Try.f6 rfl rfl rfl rfl rfl rfl rfl ⟨rfl, rfl, rfl, rfl, rfl⟩ rfl rfl rfl rfl rfl (by kernel_rfl) Try.func6 (by kernel_rfl)
    (of_decide_eq_true (by kernel_rfl)) (by unfold Func.isWrapper; first | (rw [if_pos (by decide +kernel)]; kernel_rfl) | (rw [if_neg (by decide +kernel)]; exact ⟨rfl, rfl⟩))
    (fun os started H enc _ => probePlays_lifted os started H enc)
/-- ████ THE STATEMENT ████ -/
theorem probePlays_proved : Rows.ProbePlaysSaid := probePlays_over
#print axioms probePlays_proved
end Go.Proofs.Ytdajfimollbnlaa
