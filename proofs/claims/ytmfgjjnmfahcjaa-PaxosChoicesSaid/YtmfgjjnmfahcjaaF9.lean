/- The laws of this seat, part F9: contracts of the functions, plain laws. No conditions. -/
import Derived.Test.YtmfgjjnmfahcjaaE9
set_option linter.unusedSimpArgs false
set_option linter.unusedVariables false
namespace Go.Proofs.Ytmfgjjnmfahcjaa
open Go.Lift
theorem r71 (v : View) (hv : v.mem.length ≤ 1000000) (cut : List Int) (hc : cut.length ≤ 1000000) : Ret Try.prog 71 [.agg (viewE v), .lst 1 (cut.map intE) false] (.lst 1 ((splitR v cut v.mem cut).2.map intE) false) := by
  have h1 : v.mem.length ≤ maxLen := Nat.le_trans hv (by decide)
  have h2 : cut.length ≤ maxLen := Nat.le_trans hc (by decide)
  refine ret_of_body (fn := Try.f71) (c := Try.f71.body.getD .skip) hm hT (by kernel_rfl) Try.func71 (by kernel_rfl) (by kernel_rfl) (by kernel_rfl) (by kernel_rfl) ?_
  repeat' ((conv => whnf); first | refine And.intro (fun h => h) ?_ | refine dcond_t (by assumption) ?_ | refine dcond_f (by assumption) ?_ | (refine dcond_intro ?_ ?_ <;> intro h) | exact .refl | refine And.intro (by kernel_rfl) ?_ | refine And.intro ⟨fun h => h, fun h => h⟩ ?_ | refine .inl ⟨_, _, DleAll_refl _, r75 _ h1 _ _ _ h2 hv h2, ?_⟩ | refine ⟨_, _, DleAll_refl _, r75 _ h1 _ _ _ h2 hv h2, ?_⟩ | refine ⟨_, _, DleAll_refl _, fun _ => r75 _ h1 _ _ _ h2 hv h2, ?_⟩ | (refine And.intro ?_ ?_; focus (simp; done)) | fail)
theorem r72 (v : View) (hv : v.mem.length ≤ 1000000) (cut : List Int) (hc : cut.length ≤ 1000000) : Ret Try.prog 72 [.agg (viewE v), .lst 1 (cut.map intE) false] (.lst 1 ((splitR v cut cut v.mem).2.map intE) false) := by
  have h1 : v.mem.length ≤ maxLen := Nat.le_trans hv (by decide)
  have h2 : cut.length ≤ maxLen := Nat.le_trans hc (by decide)
  refine ret_of_body (fn := Try.f72) (c := Try.f72.body.getD .skip) hm hT (by kernel_rfl) Try.func72 (by kernel_rfl) (by kernel_rfl) (by kernel_rfl) (by kernel_rfl) ?_
  repeat' ((conv => whnf); first | refine And.intro (fun h => h) ?_ | refine dcond_t (by assumption) ?_ | refine dcond_f (by assumption) ?_ | (refine dcond_intro ?_ ?_ <;> intro h) | exact .refl | refine And.intro (by kernel_rfl) ?_ | refine And.intro ⟨fun h => h, fun h => h⟩ ?_ | refine .inl ⟨_, _, DleAll_refl _, r75 _ h1 _ _ _ h2 hc h1, ?_⟩ | refine ⟨_, _, DleAll_refl _, r75 _ h1 _ _ _ h2 hc h1, ?_⟩ | refine ⟨_, _, DleAll_refl _, fun _ => r75 _ h1 _ _ _ h2 hc h1, ?_⟩ | (refine And.intro ?_ ?_; focus (simp; done)) | fail)
theorem r64 (n : Int) : Ret Try.prog 64 [.v (.int .i64 n)] (.v (.bool (decide (1 ≤ n) && decide (n ≤ 16)))) := by
  refine ret_of_body (fn := Try.f64) (c := Try.f64.body.getD .skip) hm hT (by kernel_rfl) Try.func64 (by kernel_rfl) (by kernel_rfl) (by kernel_rfl) (by kernel_rfl) ?_
  repeat' ((conv => whnf); first | refine And.intro (fun h => h) ?_ | refine dcond_t (by assumption) ?_ | refine dcond_f (by assumption) ?_ | (refine dcond_intro ?_ ?_ <;> intro h) | exact .refl | refine And.intro (by kernel_rfl) ?_ | refine And.intro ⟨fun h => h, fun h => h⟩ ?_ | (refine And.intro ?_ ?_; focus (simp; done)) | fail)
end Go.Proofs.Ytmfgjjnmfahcjaa
