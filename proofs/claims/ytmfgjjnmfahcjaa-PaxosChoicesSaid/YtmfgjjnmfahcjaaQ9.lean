/- The laws of this seat, part Q9: contracts of the functions, plain laws. No conditions. -/
import Derived.Test.YtmfgjjnmfahcjaaNref3b
import Derived.Test.YtmfgjjnmfahcjaaLiftR
set_option linter.unusedSimpArgs false
set_option linter.unusedVariables false
namespace Go.Proofs.Ytmfgjjnmfahcjaa
open Go.Lift
theorem m51 (l : List Rpt) (hl : l.length ≤ 500000) (hc : ∀ r ∈ l, r.cut.length ≤ 1000000) : RetM Try.prog 51 [] [.lst 3 (l.map rptE) false] [] [.row 32 3 (l.map rptE)] (.own 0) := by
  have hby : (l.map rptE).length * (tinfo tt 32).bytes ≤ 140737488355328 := by
    have e : (tinfo tt 32).bytes = 40 := by kernel_rfl
    rw [e]; simp; omega
  have hmx : (l.map rptE).length ≤ maxLen := by simp only [maxLen]; simp; omega
  refine retM_of_body (fn := Try.f51) (c := Try.f51.body.getD .skip) hm hT (by kernel_rfl) Try.func51 (by kernel_rfl) (by kernel_rfl) (by kernel_rfl) (by kernel_rfl) (by kernel_rfl) ?_
  repeat' ((conv => whnf); first | refine And.intro (fun h => h) ?_ | refine dcond_t (by assumption) ?_ | refine dcond_f (by assumption) ?_ | (refine dcond_intro ?_ ?_ <;> intro h) | exact .refl | refine And.intro (by kernel_rfl) ?_ | refine And.intro ⟨fun h => h, fun h => h⟩ ?_ | refine ⟨(l.map rptE).length, (l.map rptE).length, rfl, rfl, Nat.le_refl _, hby, hmx, ?_⟩ | (refine And.intro ?_ ?_; focus (simp; done)) | fail)
  all_goals (conv => whnf)
  have e0 : (l.map rptE).take (List.replicate (l.map rptE).length (tinfo tt 32).zero).length ++ (List.replicate (l.map rptE).length (tinfo tt 32).zero).drop (l.map rptE).length = l.map rptE := by
    simp only [List.length_replicate, List.drop_of_length_le (Nat.le_of_eq (List.length_replicate ..)), List.append_nil]
    exact List.take_of_length_le (Nat.le_refl _)
  rw [e0]
  refine ⟨Nat, fun i => ⟨[(3, .own 0), (12, i64 (l.map rptE).length), (13, i64 i)], [.row 32 3 (l.map rptE)]⟩, fun i => i ≤ l.length, fun i => l.length - i, [], ⟨0, Nat.zero_le _, ?_⟩, ?_⟩
  · exact ⟨⟨.refl, .refl, .refl, trivial⟩, ⟨.refl, trivial⟩, rfl⟩
  · intro i hi
    repeat' ((conv => whnf); first | refine And.intro (fun h => h) ?_ | refine dcond_t (by assumption) ?_ | refine dcond_f (by assumption) ?_ | (refine dcond_intro ?_ ?_ <;> intro h) | exact .refl | refine And.intro (by kernel_rfl) ?_ | refine And.intro ⟨fun h => h, fun h => h⟩ ?_ | (refine And.intro ?_ ?_; focus (simp; done)) | fail)
    · have hlt : i < l.length := by simpa using h
      have hlt2 : i < (l.map rptE).length := by simpa using hlt
      have hcc := hc _ (List.getElem_mem hlt)
      repeat' ((conv => whnf); first | refine And.intro (fun h => h) ?_ | refine dcond_t (by assumption) ?_ | refine dcond_f (by assumption) ?_ | (refine dcond_intro ?_ ?_ <;> intro h) | exact .refl | refine And.intro (by kernel_rfl) ?_ | refine And.intro ⟨fun h => h, fun h => h⟩ ?_ | refine .inl ⟨_, _, DleAll_refl _, r39 _ hcc, ?_⟩ | refine ⟨_, _, DleAll_refl _, fun _ => r39 _ hcc, ?_⟩ | refine ⟨_, _, DleAll_refl _, r39 _ hcc, ?_⟩ | refine ⟨i, And.intro ⟨rfl, hlt2⟩ ?_⟩ | refine ⟨rptE (l[i]'hlt), And.intro (get_map hlt) ?_⟩ | (refine And.intro ?_ ?_; focus (simp; done)) | fail)
      all_goals (conv => whnf)
      refine ⟨i + 1, hlt, by simp only []; omega, ?_⟩
      refine ⟨⟨.refl, .refl, dle_int (wrap_succ (by omega)), trivial⟩, ⟨ole_row ?_, trivial⟩, rfl⟩
      apply List.ext_getElem?
      intro j
      rw [List.getElem?_set]
      split
      · rename_i hj
        subst hj
        first
          | rw [if_pos hlt2, get_map hlt]; rfl
          | rw [get_map hlt]; rfl
      · rfl
    · have hge : ¬ i < l.length := by simpa using h
      repeat' ((conv => whnf); first | refine And.intro (fun h => h) ?_ | refine dcond_t (by assumption) ?_ | refine dcond_f (by assumption) ?_ | (refine dcond_intro ?_ ?_ <;> intro h) | exact .refl | refine And.intro (by kernel_rfl) ?_ | refine And.intro ⟨fun h => h, fun h => h⟩ ?_ | (refine And.intro ?_ ?_; focus (simp; done)) | fail)
      all_goals (conv => whnf)
      exact ⟨.refl, ⟨.refl, trivial⟩, rfl⟩
end Go.Proofs.Ytmfgjjnmfahcjaa
