/- The laws of this seat, part J9: contracts of the functions, plain laws. No conditions. -/
import Derived.Test.YtmfgjjnmfahcjaaI9
set_option linter.unusedSimpArgs false
set_option linter.unusedVariables false
namespace Go.Proofs.Ytmfgjjnmfahcjaa
open Go.Lift
structure Bal where
  mem : Int
  cut : List Int
def balE (b : Bal) : List DV := [.v (.int .i64 b.mem), .lst 1 (b.cut.map intE) false]
def votesN (l : List Bal) (cut : List Int) : Nat := (l.filter fun b => sameI b.cut cut).length
theorem votes_in {l : List Bal} {cut : List Int} {i : Nat} (h : i < l.length) (hs : sameI (l[i]'h).cut cut = true) : votesN (l.take (i + 1)) cut = votesN (l.take i) cut + 1 := by
  simp only [votesN, List.take_succ_eq_append_getElem h, List.filter_append]
  simp [hs]
theorem votes_out {l : List Bal} {cut : List Int} {i : Nat} (h : i < l.length) (hs : sameI (l[i]'h).cut cut = false) : votesN (l.take (i + 1)) cut = votesN (l.take i) cut := by
  simp only [votesN, List.take_succ_eq_append_getElem h, List.filter_append]
  simp [hs]
theorem votes_le (l : List Bal) (cut : List Int) (i : Nat) : votesN (l.take i) cut ≤ i :=
  Nat.le_trans (List.length_filter_le _ _) (by simp; omega)
theorem r49 (l : List Bal) (hl : l.length ≤ 500000) (hc : ∀ b ∈ l, b.cut.length ≤ maxLen) (cut : List Int) : Ret Try.prog 49 [.lst 2 (l.map balE) false, .lst 1 (cut.map intE) false] (.v (.int .i64 (votesN l cut))) := by
  refine ret_of_body (fn := Try.f49) (c := Try.f49.body.getD .skip) hm hT (by kernel_rfl) Try.func49 (by kernel_rfl) (by kernel_rfl) (by kernel_rfl) (by kernel_rfl) ?_
  repeat' ((conv => whnf); first | refine And.intro (fun h => h) ?_ | refine dcond_t (by assumption) ?_ | refine dcond_f (by assumption) ?_ | (refine dcond_intro ?_ ?_ <;> intro h) | exact .refl | refine And.intro (by kernel_rfl) ?_ | refine And.intro ⟨fun h => h, fun h => h⟩ ?_ | (refine And.intro ?_ ?_; focus (simp; done)) | fail)
  refine ⟨Nat, fun i => ⟨[(1, .lst 1 (cut.map intE) false), (5, i64 (votesN (l.take i) cut)), (8, .lst 2 (l.map balE) false), (9, i64 (l.map balE).length), (10, i64 i)], []⟩, fun i => i ≤ l.length, fun i => l.length - i, [], ⟨0, Nat.zero_le _, ?_⟩, ?_⟩
  · exact ⟨by repeat' ((conv => whnf); first | exact trivial | refine And.intro (by (conv => arg 1; whnf); first | (with_reducible exact .refl) | exact dle_int (wrap_succ (by omega)) | exact .refl) ?_), by repeat' ((conv => whnf); first | exact trivial | refine And.intro ?_ ?_ | exact .refl), rfl⟩
  · intro i hi
    repeat' ((conv => whnf); first | refine And.intro (fun h => h) ?_ | refine dcond_t (by assumption) ?_ | refine dcond_f (by assumption) ?_ | (refine dcond_intro ?_ ?_ <;> intro h) | exact .refl | refine And.intro (by kernel_rfl) ?_ | refine And.intro ⟨fun h => h, fun h => h⟩ ?_ | (refine And.intro ?_ ?_; focus (simp; done)) | fail)
    · have hlt : i < l.length := by simpa using h
      clear h
      have hcc := hc _ (List.getElem_mem hlt)
      have hle := votes_le l cut i
      repeat' ((conv => whnf); first | refine And.intro (fun h => h) ?_ | refine dcond_t (by assumption) ?_ | refine dcond_f (by assumption) ?_ | (refine dcond_intro ?_ ?_ <;> intro h) | exact .refl | refine And.intro (by kernel_rfl) ?_ | refine And.intro ⟨fun h => h, fun h => h⟩ ?_ | refine ⟨_, _, And.intro ⟨rfl, get_map hlt⟩ ?_⟩ | refine .inl ⟨_, _, DleAll_refl _, r42 _ _ hcc, ?_⟩ | refine ⟨_, _, DleAll_refl _, r42 _ _ hcc, ?_⟩ | refine ⟨_, _, DleAll_refl _, fun _ => r42 _ _ hcc, ?_⟩ | (refine And.intro ?_ ?_; focus (simp; done)) | fail)
      all_goals (conv => whnf)
      all_goals refine ⟨i + 1, hlt, by simp only []; omega, ?_⟩
      · refine ⟨⟨.refl, ?_, .refl, .refl, dle_int (wrap_succ (by omega)), trivial⟩, trivial, rfl⟩
        rw [votes_in hlt h]
        exact dle_int (wrap_succ (by omega))
      · refine ⟨⟨.refl, ?_, .refl, .refl, dle_int (wrap_succ (by omega)), trivial⟩, trivial, rfl⟩
        rw [votes_out hlt h]
        exact .refl
    · have hge : ¬ i < l.length := by simpa using h
      have : i = l.length := by omega
      subst this
      conv => whnf
      rw [List.take_length]
      exact .refl
end Go.Proofs.Ytmfgjjnmfahcjaa
