/- The laws of this seat, part PR11: contracts of the functions, plain laws. No conditions. -/
import Derived.Test.YtdcfooeoaoahjaaGreatOwE
set_option linter.unusedSimpArgs false
set_option linter.unusedVariables false
set_option maxRecDepth 100000
set_option maxHeartbeats 16000000
namespace Go.Proofs.YtdcfooeoaoahjaaGreat
open Go.Lift
open Go.ChangeShapes Go.WideShapes Go.ChangeAt Go.RowKit
theorem auF : ownKnob Tryz.prog.godebug = none := by kernel_rfl
theorem auG : laidOutB Tryz.prog = true := by kernel_rfl
theorem auH(os : Os)(started : os.Started)(H : Type)(enc : TypeId × Value -> H) :
    ReturnsInHanded {} Tryz.checked os 4 .any (Rows.membershipRemovesSpec.pre6 enc Tryz.prog Tryz.f4 Rows.membershipRemovesRow.domain false) (Rows.membershipRemovesSpec.post enc Tryz.prog Tryz.f4 false true false false) := by
  refine returnsInHanded_of_change (C := Tryz.checked) auF started (by kernel_rfl) Tryz.func4
    (ChangeSpec.witness6 (enc := enc) (C := Tryz.checked) false ⟨#[], #[.agg #[.int .i64 0, .slice none 0 0], .int .u8 0], []⟩ 8 (by kernel_rfl) (by kernel_rfl) (by kernel_rfl) (by kernel_rfl)) ?_
  intro W base args ds gs before ve dI _ _
  exact ah5 ay (n := 6) ve dI rfl (fun ds h => by
    match ds, h with
    | [_, _], _ => rfl) (by kernel_rfl) (t := 4) (by kernel_rfl) (by kernel_rfl) auG (by kernel_rfl) auE
theorem auI : Rows.membershipRemovesRow.holds Tryz.pinned (OpenSpec.ofChange Rows.membershipRemovesSpec) :=
  OpenClaim.holds_of_wide 4 Tryz.f4 rfl rfl rfl rfl rfl rfl rfl ⟨rfl, rfl, rfl, rfl, rfl⟩ rfl rfl rfl rfl rfl (by kernel_rfl) Tryz.func4 (by kernel_rfl)
    (of_decide_eq_true (by kernel_rfl)) (by unfold Func.isWrapper; first | (rw [if_pos (by decide +kernel)]; kernel_rfl) | (rw [if_neg (by decide +kernel)]; exact ⟨rfl, rfl⟩))
    (fun os started H enc _ => auH os started H enc)
theorem membershipRemoves_proved : Rows.MembershipRemovesSaid := auI
#print axioms membershipRemoves_proved
end Go.Proofs.YtdcfooeoaoahjaaGreat
