/- The laws of this seat, part PV11: contracts of the functions, plain laws. No conditions. -/
import Derived.Test.YtdcfooeoaoahjaaGreatOwE
set_option linter.unusedSimpArgs false
set_option linter.unusedVariables false
set_option maxRecDepth 100000
set_option maxHeartbeats 16000000
namespace Go.Proofs.YtdcfooeoaoahjaaGreat
open Go.Lift
open Go.ChangeShapes Go.WideShapes Go.ChangeAt Go.RowKit
theorem ajB : ownKnob Tryz.prog.godebug = none := by kernel_rfl
theorem ajC : laidOutB Tryz.prog = true := by kernel_rfl
theorem ajD(os : Os)(started : os.Started)(H : Type)(enc : TypeId × Value -> H) :
    ReturnsInHanded {} Tryz.checked os 3 .any (Rows.membershipViewsSpec.pre6 enc Tryz.prog Tryz.f3 Rows.membershipViewsRow.domain false) (Rows.membershipViewsSpec.post enc Tryz.prog Tryz.f3 false true false false) := by
  refine returnsInHanded_of_change (C := Tryz.checked) ajB started (by kernel_rfl) Tryz.func3
    (ChangeSpec.witness6 (enc := enc) (C := Tryz.checked) false ⟨#[], #[.agg #[.int .i64 0, .slice none 0 0], .slice none 0 0], []⟩ 8 (by kernel_rfl) (by kernel_rfl) (by kernel_rfl) (by kernel_rfl)) ?_
  intro W base args ds gs before Bq dT _ _
  exact YR aO (n := 6) Bq dT rfl (fun ds h => by
    match ds, h with
    | [_, _], _ => rfl) (by kernel_rfl) (t := 4) (by kernel_rfl) (by kernel_rfl) ajC (by kernel_rfl) ajA
theorem ajE : Rows.membershipViewsRow.holds Tryz.pinned (OpenSpec.ofChange Rows.membershipViewsSpec) :=
  OpenClaim.holds_of_wide 3 Tryz.f3 rfl rfl rfl rfl rfl rfl rfl ⟨rfl, rfl, rfl, rfl, rfl⟩ rfl rfl rfl rfl rfl (by kernel_rfl) Tryz.func3 (by kernel_rfl)
    (of_decide_eq_true (by kernel_rfl)) (by unfold Func.isWrapper; first | (rw [if_pos (by decide +kernel)]; kernel_rfl) | (rw [if_neg (by decide +kernel)]; exact ⟨rfl, rfl⟩))
    (fun os started H enc _ => ajD os started H enc)
theorem membershipViews_proved : Rows.MembershipViewsSaid := ajE
#print axioms membershipViews_proved
end Go.Proofs.YtdcfooeoaoahjaaGreat
