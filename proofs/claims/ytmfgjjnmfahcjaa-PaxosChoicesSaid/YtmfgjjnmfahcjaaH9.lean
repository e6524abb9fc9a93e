/- The laws of this seat, part H9: contracts of the functions, plain laws. No conditions. -/
import Derived.Test.YtmfgjjnmfahcjaaG9
set_option linter.unusedSimpArgs false
set_option linter.unusedVariables false
namespace Go.Proofs.Ytmfgjjnmfahcjaa
open Go.Lift
theorem split_len (v : View) (cut l o : List Int) : (splitR v cut l o).2.length ≤ l.length := by
  unfold splitR
  cases (!viewB v || !idsB cut 32)
  · exact List.length_filter_le _ _
  · simp
def stayL (v : View) (cut : List Int) : List Int := (splitR v cut v.mem cut).2
def comeL (v : View) (cut : List Int) : List Int := (splitR v cut cut v.mem).2
def nextR (v : View) (cut : List Int) : View × Int :=
  bif !viewB v || !idsB cut 32 then (⟨0, []⟩, 1)
  else bif decide (2 * ((stayL v cut).length : Int) ≤ (v.mem.length : Int)) then (⟨0, []⟩, 9)
  else bif decide (v.num = 1099511627776) || decide (16 < ((stayL v cut).length : Int) + ((comeL v cut).length : Int)) then (⟨0, []⟩, 5)
  else (⟨IntKind.i64.wrap (v.num + 1), mergeL (stayL v cut) (comeL v cut)⟩, 0)
theorem r65 (v : View) (hv : v.mem.length ≤ 500000) (cut : List Int) (hc : cut.length ≤ 500000) : Ret Try.prog 65 [.agg (viewE v), .lst 1 (cut.map intE) false] (.tup [.agg (viewE (nextR v cut).1), .v (.int .i64 (nextR v cut).2)]) := by
  have h1 : v.mem.length ≤ maxLen := Nat.le_trans hv (by decide)
  have h2 : cut.length ≤ maxLen := Nat.le_trans hc (by decide)
  have h3 : (stayL v cut).length ≤ 500000 := Nat.le_trans (split_len _ _ _ _) hv
  have h4 : (comeL v cut).length ≤ 500000 := Nat.le_trans (split_len _ _ _ _) hc
  have e71 : Ret Try.prog 71 [.agg (viewE v), .lst 1 (cut.map intE) false] (.lst 1 ((stayL v cut).map intE) false) := r71 v (by omega) cut (by omega)
  have e72 : Ret Try.prog 72 [.agg (viewE v), .lst 1 (cut.map intE) false] (.lst 1 ((comeL v cut).map intE) false) := r72 v (by omega) cut (by omega)
  have w1 : IntKind.i64.wrap (2 * ((stayL v cut).length : Int)) = 2 * ((stayL v cut).length : Int) := wrap_i64 (by omega) (by omega)
  have w2 : IntKind.i64.wrap (((stayL v cut).length : Int) + ((comeL v cut).length : Int)) = ((stayL v cut).length : Int) + ((comeL v cut).length : Int) := wrap_i64 (by omega) (by omega)
  refine ret_of_body (fn := Try.f65) (c := Try.f65.body.getD .skip) hm hT (by kernel_rfl) Try.func65 (by kernel_rfl) (by kernel_rfl) (by kernel_rfl) (by kernel_rfl) ?_
  repeat' ((conv => whnf); first | refine And.intro (fun h => h) ?_ | refine dcond_t (by assumption) ?_ | refine dcond_f (by assumption) ?_ | (refine dcond_intro ?_ ?_ <;> intro h) | exact .refl | refine And.intro (by kernel_rfl) ?_ | refine And.intro ⟨fun h => h, fun h => h⟩ ?_ | refine .inl ⟨_, _, DleAll_refl _, r57 _ h1, ?_⟩ | refine ⟨_, _, DleAll_refl _, r57 _ h1, ?_⟩ | refine ⟨_, _, DleAll_refl _, fun _ => r57 _ h1, ?_⟩ | refine .inl ⟨_, _, DleAll_refl _, r37 _ h2, ?_⟩ | refine ⟨_, _, DleAll_refl _, r37 _ h2, ?_⟩ | refine ⟨_, _, DleAll_refl _, fun _ => r37 _ h2, ?_⟩ | refine .inl ⟨_, _, DleAll_refl _, e71, ?_⟩ | refine ⟨_, _, DleAll_refl _, e71, ?_⟩ | refine ⟨_, _, DleAll_refl _, fun _ => e71, ?_⟩ | refine .inl ⟨_, _, DleAll_refl _, e72, ?_⟩ | refine ⟨_, _, DleAll_refl _, e72, ?_⟩ | refine ⟨_, _, DleAll_refl _, fun _ => e72, ?_⟩ | refine .inl ⟨_, _, DleAll_refl _, r73 _ _ h3 h4, ?_⟩ | refine ⟨_, _, DleAll_refl _, r73 _ _ h3 h4, ?_⟩ | refine ⟨_, _, DleAll_refl _, fun _ => r73 _ _ h3 h4, ?_⟩ | (refine And.intro ?_ ?_; focus (simp; done)) | fail)
  all_goals (conv => whnf)
  all_goals clear e71 e72
  all_goals (try simp only [List.length_map, w1, w2] at *)
  all_goals simp only [nextR, *, cond_true, cond_false]
  · exact dle_tupA ⟨dle_aggA ⟨.refl, .nl, trivial⟩, .refl, trivial⟩
  · exact dle_tupA ⟨dle_aggA ⟨.refl, .nl, trivial⟩, .refl, trivial⟩
  · exact dle_tupA ⟨dle_aggA ⟨.refl, .nl, trivial⟩, .refl, trivial⟩
  · exact .refl
theorem r48 (v : View) (hv : v.mem.length ≤ 500000) (cut : List Int) (hc : cut.length ≤ 500000) : Ret Try.prog 48 [.agg (viewE v), .lst 1 (cut.map intE) false] (.v (.bool (decide ((nextR v cut).2 = 0)))) := by
  refine ret_of_body (fn := Try.f48) (c := Try.f48.body.getD .skip) hm hT (by kernel_rfl) Try.func48 (by kernel_rfl) (by kernel_rfl) (by kernel_rfl) (by kernel_rfl) ?_
  repeat' ((conv => whnf); first | refine And.intro (fun h => h) ?_ | refine dcond_t (by assumption) ?_ | refine dcond_f (by assumption) ?_ | (refine dcond_intro ?_ ?_ <;> intro h) | exact .refl | refine And.intro (by kernel_rfl) ?_ | refine And.intro ⟨fun h => h, fun h => h⟩ ?_ | refine .inl ⟨_, _, DleAll_refl _, r65 _ hv _ hc, ?_⟩ | refine ⟨_, _, DleAll_refl _, r65 _ hv _ hc, ?_⟩ | refine ⟨_, _, DleAll_refl _, fun _ => r65 _ hv _ hc, ?_⟩ | (refine And.intro ?_ ?_; focus (simp; done)) | fail)
end Go.Proofs.Ytmfgjjnmfahcjaa
