/- The laws of this seat, part C9: contracts of the functions, plain laws. No conditions. -/
import Derived.Test.YtmfgjjnmfahcjaaB9
set_option linter.unusedSimpArgs false
set_option linter.unusedVariables false
namespace Go.Proofs.Ytmfgjjnmfahcjaa
open Go.Lift
def sameI (a b : List Int) : Bool := decide ((a.length : Int) = (b.length : Int)) && allB (fun i => decide (a.getD i 0 = b.getD i 0)) a.length
theorem r61 (a b : List Int) (ha : a.length ≤ maxLen) : Ret Try.prog 61 [.lst 1 (a.map intE) false, .lst 1 (b.map intE) false] (.v (.bool (sameI a b))) := by
  have hl' : a.length ≤ 9223372036854775807 := ha
  refine ret_of_body (fn := Try.f61) (c := Try.f61.body.getD .skip) hm hT (by kernel_rfl) Try.func61 (by kernel_rfl) (by kernel_rfl) (by kernel_rfl) (by kernel_rfl) ?_
  repeat' ((conv => whnf); first | refine And.intro (fun h => h) ?_ | refine dcond_t (by assumption) ?_ | refine dcond_f (by assumption) ?_ | (refine dcond_intro ?_ ?_ <;> intro h) | exact .refl | refine And.intro (by kernel_rfl) ?_ | refine And.intro ⟨fun h => h, fun h => h⟩ ?_ | (refine And.intro ?_ ?_; focus (simp; done)) | fail)
  · refine dle_bool ?_
    simp only [List.length_map] at h
    have h : decide ((a.length : Int) = (b.length : Int)) = false := by simpa using h
    simp only [sameI, h, Bool.false_and]
  · have h0 : a.length = b.length := by
      simp at h
      omega
    clear h
    conv => whnf
    refine ⟨Nat, fun i => ⟨[(0, .lst 1 (a.map intE) false), (1, .lst 1 (b.map intE) false), (12, i64 (a.map intE).length), (13, i64 i)], []⟩, fun i => i ≤ a.length ∧ ∀ j, j < i → decide (a.getD j 0 = b.getD j 0) = true, fun i => a.length - i, [], ⟨0, ⟨Nat.zero_le _, by omega⟩, ?_⟩, ?_⟩
    · exact ⟨by repeat' ((conv => whnf); first | exact trivial | refine And.intro (by (conv => arg 1; whnf); first | (with_reducible exact .refl) | exact dle_int (wrap_succ (by omega)) | exact .refl) ?_), by repeat' ((conv => whnf); first | exact trivial | refine And.intro ?_ ?_ | exact .refl), rfl⟩
    · intro i ⟨hi, hall⟩
      repeat' ((conv => whnf); first | refine And.intro (fun h => h) ?_ | refine dcond_t (by assumption) ?_ | refine dcond_f (by assumption) ?_ | (refine dcond_intro ?_ ?_ <;> intro h) | exact .refl | refine And.intro (by kernel_rfl) ?_ | refine And.intro ⟨fun h => h, fun h => h⟩ ?_ | (refine And.intro ?_ ?_; focus (simp; done)) | fail)
      · have hlt : i < a.length := by simpa using h
        have hlt2 : i < b.length := by omega
        clear h
        have hg : a.getD i 0 = a[i] := by simp [hlt]
        have hg2 : b.getD i 0 = b[i] := by simp [hlt2]
        repeat' ((conv => whnf); first | refine And.intro (fun h => h) ?_ | refine dcond_t (by assumption) ?_ | refine dcond_f (by assumption) ?_ | (refine dcond_intro ?_ ?_ <;> intro h) | exact .refl | refine And.intro (by kernel_rfl) ?_ | refine And.intro ⟨fun h => h, fun h => h⟩ ?_ | refine ⟨_, _, And.intro ⟨rfl, get_map hlt⟩ ?_⟩ | refine ⟨_, _, And.intro ⟨rfl, get_map hlt2⟩ ?_⟩ | (refine And.intro ?_ ?_; focus (simp; done)) | fail)
        · refine dle_bool ?_
          rw [sameI, allB_false hlt (i := i), Bool.and_false]
          rw [hg, hg2]
          simpa using h
        · conv => whnf
          refine ⟨i + 1, ⟨hlt, fun j hj => ?_⟩, by simp only []; omega, ?_⟩
          · rcases Nat.lt_succ_iff_lt_or_eq.1 hj with hj | rfl
            · exact hall j hj
            · rw [hg, hg2]
              simpa using h
          · exact ⟨by repeat' ((conv => whnf); first | exact trivial | refine And.intro (by (conv => arg 1; whnf); first | (with_reducible exact .refl) | exact dle_int (wrap_succ (by omega)) | exact .refl) ?_), by repeat' ((conv => whnf); first | exact trivial | refine And.intro ?_ ?_ | exact .refl), rfl⟩
      · have hge : ¬ i < a.length := by simpa using h
        conv => whnf
        refine dle_bool ?_
        rw [sameI, allB_true.2 (fun j hj => hall j (by omega)), h0]
        simp
theorem r42 (a b : List Int) (ha : a.length ≤ maxLen) : Ret Try.prog 42 [.lst 1 (a.map intE) false, .lst 1 (b.map intE) false] (.v (.bool (sameI a b))) := by
  refine ret_of_body (fn := Try.f42) (c := Try.f42.body.getD .skip) hm hT (by kernel_rfl) Try.func42 (by kernel_rfl) (by kernel_rfl) (by kernel_rfl) (by kernel_rfl) ?_
  repeat' ((conv => whnf); first | refine And.intro (fun h => h) ?_ | refine dcond_t (by assumption) ?_ | refine dcond_f (by assumption) ?_ | (refine dcond_intro ?_ ?_ <;> intro h) | exact .refl | refine And.intro (by kernel_rfl) ?_ | refine And.intro ⟨fun h => h, fun h => h⟩ ?_ | refine .inl ⟨_, _, DleAll_refl _, r61 _ _ ha, ?_⟩ | refine ⟨_, _, DleAll_refl _, r61 _ _ ha, ?_⟩ | refine ⟨_, _, DleAll_refl _, fun _ => r61 _ _ ha, ?_⟩ | (refine And.intro ?_ ?_; focus (simp; done)) | fail)
def acceptR (a : Acc) (rank : Int) (cut : List Int) : Acc × Bool :=
  bif !accB a then (⟨0, 0, []⟩, false)
  else bif !usableB rank || decide (rank < a.pro) || !idsB cut 32 || decide (a.rank = rank) && !sameI a.cut cut then (a, false)
  else (⟨rank, rank, cut⟩, true)
theorem r18 (a : Acc) (hl : a.cut.length ≤ 1000000) (rank : Int) (cut : List Int) (hc : cut.length ≤ 1000000) : Ret Try.prog 18 [.agg (accE a), .v (.int .i64 rank), .lst 1 (cut.map intE) false] (.tup [.agg (accE (acceptR a rank cut).1), .v (.bool (acceptR a rank cut).2)]) := by
  have h1 : a.cut.length ≤ maxLen := Nat.le_trans hl (by decide)
  have h2 : cut.length ≤ maxLen := Nat.le_trans hc (by decide)
  refine ret_of_body (fn := Try.f18) (c := Try.f18.body.getD .skip) hm hT (by kernel_rfl) Try.func18 (by kernel_rfl) (by kernel_rfl) (by kernel_rfl) (by kernel_rfl) ?_
  repeat' ((conv => whnf); first | refine And.intro (fun h => h) ?_ | refine dcond_t (by assumption) ?_ | refine dcond_f (by assumption) ?_ | (refine dcond_intro ?_ ?_ <;> intro h) | exact .refl | refine And.intro (by kernel_rfl) ?_ | refine And.intro ⟨fun h => h, fun h => h⟩ ?_ | refine .inl ⟨_, _, DleAll_refl _, r20 _ h1, ?_⟩ | refine ⟨_, _, DleAll_refl _, r20 _ h1, ?_⟩ | refine ⟨_, _, DleAll_refl _, fun _ => r20 _ h1, ?_⟩ | refine .inl ⟨_, _, DleAll_refl _, r41 _, ?_⟩ | refine ⟨_, _, DleAll_refl _, r41 _, ?_⟩ | refine ⟨_, _, DleAll_refl _, fun _ => r41 _, ?_⟩ | refine .inl ⟨_, _, DleAll_refl _, r37 _ h2, ?_⟩ | refine ⟨_, _, DleAll_refl _, r37 _ h2, ?_⟩ | refine ⟨_, _, DleAll_refl _, fun _ => r37 _ h2, ?_⟩ | refine .inl ⟨_, _, DleAll_refl _, r42 _ _ h1, ?_⟩ | refine ⟨_, _, DleAll_refl _, r42 _ _ h1, ?_⟩ | refine ⟨_, _, DleAll_refl _, fun _ => r42 _ _ h1, ?_⟩ | refine .inl ⟨_, _, DleAll_refl _, r38 _ hl, ?_⟩ | refine ⟨_, _, DleAll_refl _, r38 _ hl, ?_⟩ | refine ⟨_, _, DleAll_refl _, fun _ => r38 _ hl, ?_⟩ | refine .inl ⟨_, _, DleAll_refl _, r39 _ hc, ?_⟩ | refine ⟨_, _, DleAll_refl _, r39 _ hc, ?_⟩ | refine ⟨_, _, DleAll_refl _, fun _ => r39 _ hc, ?_⟩ | (refine And.intro ?_ ?_; focus (simp; done)) | fail)
  all_goals (conv => whnf)
  all_goals simp only [acceptR, *, cond_true, cond_false]
  · exact dle_tupA ⟨dle_aggA ⟨.refl, .refl, .nl, trivial⟩, .refl, trivial⟩
  · exact .refl
  · exact .refl
end Go.Proofs.Ytmfgjjnmfahcjaa
