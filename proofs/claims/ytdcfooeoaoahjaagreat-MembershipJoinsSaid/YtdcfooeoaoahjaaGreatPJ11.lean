/- The laws of this seat, part PJ11: contracts of the functions, plain laws. No conditions. -/
import Derived.Test.YtdcfooeoaoahjaaGreatOwE
set_option linter.unusedSimpArgs false
set_option linter.unusedVariables false
set_option maxRecDepth 100000
set_option maxHeartbeats 16000000
namespace Go.Proofs.YtdcfooeoaoahjaaGreat
open Go.Lift
open Go.ChangeShapes Go.WideShapes Go.ChangeAt Go.RowKit
theorem atH : ownKnob Tryz.prog.godebug = none := by kernel_rfl
theorem atI : laidOutB Tryz.prog = true := by kernel_rfl
theorem atJ(os : Os)(started : os.Started)(H : Type)(enc : TypeId × Value -> H) :
    ReturnsInHanded {} Tryz.checked os 5 .any (Rows.membershipJoinsSpec.pre6 enc Tryz.prog Tryz.f5 Rows.membershipJoinsRow.domain false) (Rows.membershipJoinsSpec.post enc Tryz.prog Tryz.f5 false true false false) := by
  refine returnsInHanded_of_change (C := Tryz.checked) atH started (by kernel_rfl) Tryz.func5
    (ChangeSpec.witness6 (enc := enc) (C := Tryz.checked) false ⟨#[], #[.agg #[.int .i64 0, .slice none 0 0], .int .u16 0, .int .u8 0], []⟩ 8 (by kernel_rfl) (by kernel_rfl) (by kernel_rfl) (by kernel_rfl)) ?_
  intro W base args ds gs before u1 dA _ _
  exact ahg aw (n := 6) u1 dA rfl (fun ds h => by
    match ds, h with
    | [_, _, _], _ => rfl) (by kernel_rfl) (t := 4) (by kernel_rfl) (by kernel_rfl) atI (by kernel_rfl) atG
theorem atK : Rows.membershipJoinsRow.holds Tryz.pinned (OpenSpec.ofChange Rows.membershipJoinsSpec) :=
  OpenClaim.holds_of_wide 5 Tryz.f5 rfl rfl rfl rfl rfl rfl rfl ⟨rfl, rfl, rfl, rfl, rfl⟩ rfl rfl rfl rfl rfl (by kernel_rfl) Tryz.func5 (by kernel_rfl)
    (of_decide_eq_true (by kernel_rfl)) (by unfold Func.isWrapper; first | (rw [if_pos (by decide +kernel)]; kernel_rfl) | (rw [if_neg (by decide +kernel)]; exact ⟨rfl, rfl⟩))
    (fun os started H enc _ => atJ os started H enc)
theorem membershipJoins_proved : Rows.MembershipJoinsSaid := atK
#print axioms membershipJoins_proved
end Go.Proofs.YtdcfooeoaoahjaaGreat
