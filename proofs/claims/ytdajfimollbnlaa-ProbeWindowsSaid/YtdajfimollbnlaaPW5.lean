/- The laws of this seat, part PW5: contracts of the functions, plain laws. No conditions. -/
import Derived.Test.YtdajfimollbnlaaOwA
set_option linter.unusedSimpArgs false
set_option linter.unusedVariables false
namespace Go.Proofs.Ytdajfimollbnlaa
open Go.Lift
open Go.ChangeShapes Go.WideShapes Go.ChangeAt Go.RowKit
theorem own3 : ownKnob Try.prog.godebug = none := by kernel_rfl
theorem laidOut3 : laidOutB Try.prog = true := by kernel_rfl
set_option maxRecDepth 100000 in
theorem probeWindows_lifted (os : Os) (started : os.Started) (H : Type) (enc : TypeId × Value → H) :
    ReturnsInHanded {} Try.checked os 3 .any (Rows.probeWindowsSpec.pre6 enc Try.prog Try.f3 Rows.probeWindowsRow.domain false) (Rows.probeWindowsSpec.post enc Try.prog Try.f3 false true false false) := by
  refine returnsInHanded_of_change (C := Try.checked) own3 started (by kernel_rfl) Try.func3
    (ChangeSpec.witness6 (enc := enc) (C := Try.checked) false ⟨#[], #[.agg #[.int .u32 0, .int .i64 0], .bool false], []⟩ 8 (by kernel_rfl) (by kernel_rfl) (by kernel_rfl) (by kernel_rfl)) ?_
  intro W base args ds gs before hval hW _ _
  exact law_end hT (n := 4) hval hW rfl (fun ds h => by
    match ds, h with
    | [_, _], _ => rfl) (by kernel_rfl) (t := 4) (by kernel_rfl) (by kernel_rfl) laidOut3 (by kernel_rfl) law3
theorem probeWindows_over : Rows.probeWindowsRow.holds Try.pinned (OpenSpec.ofChange Rows.probeWindowsSpec) :=
  OpenClaim.holds_of_wide 3 Try.f3 rfl rfl rfl rfl rfl rfl rfl ⟨rfl, rfl, rfl, rfl, rfl⟩ rfl rfl rfl rfl rfl (by kernel_rfl) Try.func3 (by kernel_rfl)
    (of_decide_eq_true (by kernel_rfl)) (by unfold Func.isWrapper; first | (rw [if_pos (by decide +kernel)]; kernel_rfl) | (rw [if_neg (by decide +kernel)]; exact ⟨rfl, rfl⟩))
    (fun os started H enc _ => probeWindows_lifted os started H enc)
/-- ████ THE STATEMENT ████ -/
theorem probeWindows_proved : Rows.ProbeWindowsSaid := probeWindows_over
#print axioms probeWindows_proved
end Go.Proofs.Ytdajfimollbnlaa
