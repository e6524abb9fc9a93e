/- The laws of this seat, part PQ11: contracts of the functions, plain laws. No conditions. -/
import Derived.Test.YtdcfooeoaoahjaaGreatOwD
set_option linter.unusedSimpArgs false
set_option linter.unusedVariables false
set_option maxRecDepth 100000
namespace Go.Proofs.YtdcfooeoaoahjaaGreat
open Go.Lift
open Go.ChangeShapes Go.WideShapes Go.ChangeAt Go.RowKit
theorem own6 : ownKnob Tryz.prog.godebug = none := by kernel_rfl
theorem laidOut6 : laidOutB Tryz.prog = true := by kernel_rfl
set_option maxRecDepth 100000 in
theorem membershipQuiet_lifted (os : Os) (started : os.Started) (H : Type) (enc : TypeId × Value → H) :
    ReturnsInHanded {} Tryz.checked os 6 .any (Rows.membershipQuietSpec.pre6 enc Tryz.prog Tryz.f6 Rows.membershipQuietRow.domain false) (Rows.membershipQuietSpec.post enc Tryz.prog Tryz.f6 false true false false) := by
  refine returnsInHanded_of_change (C := Tryz.checked) own6 started (by kernel_rfl) Tryz.func6
    (ChangeSpec.witness6 (enc := enc) (C := Tryz.checked) false ⟨#[], #[.agg #[.int .i64 0, .slice none 0 0], .int .u8 0], []⟩ 8 (by kernel_rfl) (by kernel_rfl) (by kernel_rfl) (by kernel_rfl)) ?_
  intro W base args ds gs before hval hW _ _
  exact law_end hT (n := 6) hval hW rfl (fun ds h => by
    match ds, h with
    | [_, _], _ => rfl) (by kernel_rfl) (t := 4) (by kernel_rfl) (by kernel_rfl) laidOut6 (by kernel_rfl) law_MembershipQuiet
theorem membershipQuiet_over : Rows.membershipQuietRow.holds Tryz.pinned (OpenSpec.ofChange Rows.membershipQuietSpec) :=
  OpenClaim.holds_of_wide 6 Tryz.f6 rfl rfl rfl rfl rfl rfl rfl ⟨rfl, rfl, rfl, rfl, rfl⟩ rfl rfl rfl rfl rfl (by kernel_rfl) Tryz.func6 (by kernel_rfl)
    (of_decide_eq_true (by kernel_rfl)) (by unfold Func.isWrapper; first | (rw [if_pos (by decide +kernel)]; kernel_rfl) | (rw [if_neg (by decide +kernel)]; exact ⟨rfl, rfl⟩))
    (fun os started H enc _ => membershipQuiet_lifted os started H enc)
theorem membershipQuiet_proved : Rows.MembershipQuietSaid := membershipQuiet_over
#print axioms membershipQuiet_proved
end Go.Proofs.YtdcfooeoaoahjaaGreat
