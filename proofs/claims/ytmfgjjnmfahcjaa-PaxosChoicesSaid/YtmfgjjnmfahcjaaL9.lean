/- The laws of this seat, part L9: contracts of the functions, plain laws. No conditions. -/
import Derived.Test.YtmfgjjnmfahcjaaK9
set_option linter.unusedSimpArgs false
set_option linter.unusedVariables false
namespace Go.Proofs.Ytmfgjjnmfahcjaa
open Go.Lift
def aA : Acc := ⟨0, -1, []⟩
def aB : Acc := (voteR aA [4]).1
def aD : Acc := (prepR aB (rankOf 1 7)).1
def vA : View := ⟨0, [1, 2, 3, 4, 5]⟩
def lA : List Rpt := [⟨1, -1, []⟩, ⟨2, 0, [5]⟩, ⟨3, 0, [5]⟩]
set_option maxRecDepth 100000 in
theorem r9 : Ret Try.prog 9 [] (.v (.bool true)) := by
  refine ret_of_body (fn := Try.f9) (c := Try.f9.body.getD .skip) hm hT (by kernel_rfl) Try.func9 (by kernel_rfl) (by kernel_rfl) (by kernel_rfl) (by kernel_rfl) ?_
  repeat' ((conv => whnf); first | refine And.intro (fun h => h) ?_ | refine dcond_t (by assumption) ?_ | refine dcond_f (by assumption) ?_ | (refine dcond_intro ?_ ?_ <;> intro h) | exact .refl | refine And.intro (by kernel_rfl) ?_ | refine And.intro ⟨fun h => h, fun h => h⟩ ?_ | refine .inl ⟨_, _, DleAll_refl _, r24, ?_⟩ | refine ⟨_, _, DleAll_refl _, r24, ?_⟩ | refine ⟨_, _, DleAll_refl _, fun _ => r24, ?_⟩ | refine .inl ⟨_, _, DleAll_refl _, r14 aA (by decide +kernel) [4] (by decide +kernel), ?_⟩ | refine ⟨_, _, DleAll_refl _, r14 aA (by decide +kernel) [4] (by decide +kernel), ?_⟩ | refine ⟨_, _, DleAll_refl _, fun _ => r14 aA (by decide +kernel) [4] (by decide +kernel), ?_⟩ | refine .inl ⟨_, _, DleAll_refl _, r10 _ _, ?_⟩ | refine ⟨_, _, DleAll_refl _, r10 _ _, ?_⟩ | refine ⟨_, _, DleAll_refl _, fun _ => r10 _ _, ?_⟩ | refine .inl ⟨_, _, DleAll_refl _, r16 aB (by decide +kernel) _, ?_⟩ | refine ⟨_, _, DleAll_refl _, r16 aB (by decide +kernel) _, ?_⟩ | refine ⟨_, _, DleAll_refl _, fun _ => r16 aB (by decide +kernel) _, ?_⟩ | refine .inl ⟨_, _, DleAll_refl _, r18 aD (by decide +kernel) _ [4] (by decide +kernel), ?_⟩ | refine ⟨_, _, DleAll_refl _, r18 aD (by decide +kernel) _ [4] (by decide +kernel), ?_⟩ | refine ⟨_, _, DleAll_refl _, fun _ => r18 aD (by decide +kernel) _ [4] (by decide +kernel), ?_⟩ | refine .inl ⟨_, _, DleAll_refl _, r18 aD (by decide +kernel) _ [5] (by decide +kernel), ?_⟩ | refine ⟨_, _, DleAll_refl _, r18 aD (by decide +kernel) _ [5] (by decide +kernel), ?_⟩ | refine ⟨_, _, DleAll_refl _, fun _ => r18 aD (by decide +kernel) _ [5] (by decide +kernel), ?_⟩ | refine .inl ⟨_, _, DleAll_refl _, r12 _, ?_⟩ | refine ⟨_, _, DleAll_refl _, r12 _, ?_⟩ | refine ⟨_, _, DleAll_refl _, fun _ => r12 _, ?_⟩ | (refine And.intro ?_ ?_; focus (simp; done)) | fail)
  refine .inl ?_
  conv => whnf
  refine ⟨[.agg (viewE vA), .lst 3 (lA.map rptE) false, .lst 1 (([4] : List Int).map intE) false], _, ⟨.refl, ?_, .refl, trivial⟩, r28 vA (by decide +kernel) lA (by decide +kernel) (by decide +kernel) [4] (by decide +kernel), ?_⟩
  · exact dle_rowsA ⟨⟨.refl, .refl, .nl, trivial⟩, ⟨.refl, .refl, .refl, trivial⟩, ⟨.refl, .refl, .refl, trivial⟩, trivial⟩
  repeat' ((conv => whnf); first | refine And.intro (fun h => h) ?_ | refine dcond_t (by assumption) ?_ | refine dcond_f (by assumption) ?_ | (refine dcond_intro ?_ ?_ <;> intro h) | exact .refl | refine And.intro (by kernel_rfl) ?_ | refine And.intro ⟨fun h => h, fun h => h⟩ ?_ | refine .inl ⟨_, _, DleAll_refl _, r12 _, ?_⟩ | refine ⟨_, _, DleAll_refl _, r12 _, ?_⟩ | refine ⟨_, _, DleAll_refl _, fun _ => r12 _, ?_⟩ | refine ⟨0, intE 4, And.intro ⟨⟨fun h => h, fun h => h⟩, fun hg => ⟨rfl, by rfl⟩⟩ ?_⟩ | refine ⟨0, intE 4, And.intro ⟨fun h => h, fun hg => ⟨rfl, by rfl⟩⟩ ?_⟩ | refine ⟨0, intE 5, And.intro ⟨⟨fun h => h, fun h => h⟩, fun hg => ⟨rfl, by rfl⟩⟩ ?_⟩ | refine ⟨0, intE 5, And.intro ⟨fun h => h, fun hg => ⟨rfl, by rfl⟩⟩ ?_⟩ | (refine And.intro ?_ ?_; focus (simp; done)) | fail)
end Go.Proofs.Ytmfgjjnmfahcjaa
