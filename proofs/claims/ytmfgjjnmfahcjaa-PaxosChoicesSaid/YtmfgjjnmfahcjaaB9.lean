/- The laws of this seat, part B9: contracts of the functions, plain laws. No conditions. -/
import Derived.Test.YtmfgjjnmfahcjaaA9
set_option linter.unusedSimpArgs false
set_option linter.unusedVariables false
namespace Go.Proofs.Ytmfgjjnmfahcjaa
open Go.Lift
def okAt (l : List Int) (i : Nat) : Bool := !(decide (l.getD i 0 ≤ (0 :: l).getD i 0) || decide (1000 < l.getD i 0))
def idsB (l : List Int) (most : Int) : Bool := !(decide ((l.length : Int) < 1) || decide (most < (l.length : Int))) && allB (okAt l) l.length
theorem r59 (l : List Int) (hl : l.length ≤ maxLen) (m : Int) : Ret Try.prog 59 [.lst 1 (l.map intE) false, .v (.int .i64 m)] (.v (.bool (idsB l m))) := by
  have hl' : l.length ≤ 9223372036854775807 := hl
  refine ret_of_body (fn := Try.f59) (c := Try.f59.body.getD .skip) hm hT (by kernel_rfl) Try.func59 (by kernel_rfl) (by kernel_rfl) (by kernel_rfl) (by kernel_rfl) ?_
  repeat' ((conv => whnf); first | refine And.intro (fun h => h) ?_ | refine dcond_t (by assumption) ?_ | refine dcond_f (by assumption) ?_ | (refine dcond_intro ?_ ?_ <;> intro h) | exact .refl | refine And.intro (by kernel_rfl) ?_ | refine And.intro ⟨fun h => h, fun h => h⟩ ?_ | (refine And.intro ?_ ?_; focus (simp; done)) | fail)
  · skip
    refine dle_bool ?_
    simp only [List.length_map] at h
    simp only [idsB, h]
    rfl
  · skip
    simp only [List.length_map] at h
    have h0 := h
    clear h
    conv => whnf
    refine ⟨Nat, fun i => ⟨[(5, i64 ((0 :: l).getD i 0)), (17, .lst 1 (l.map intE) false), (18, i64 (l.map intE).length), (19, i64 i)], []⟩, fun i => i ≤ l.length ∧ ∀ j, j < i → okAt l j = true, fun i => l.length - i, [], ⟨0, ⟨Nat.zero_le _, by omega⟩, ?_⟩, ?_⟩
    · exact ⟨by repeat' ((conv => whnf); first | exact trivial | refine And.intro (by (conv => arg 1; whnf); first | (with_reducible exact .refl) | exact dle_int (wrap_succ (by omega)) | exact .refl) ?_), by repeat' ((conv => whnf); first | exact trivial | refine And.intro ?_ ?_ | exact .refl), rfl⟩
    · intro i ⟨hi, hall⟩
      repeat' ((conv => whnf); first | refine And.intro (fun h => h) ?_ | refine dcond_t (by assumption) ?_ | refine dcond_f (by assumption) ?_ | (refine dcond_intro ?_ ?_ <;> intro h) | exact .refl | refine And.intro (by kernel_rfl) ?_ | refine And.intro ⟨fun h => h, fun h => h⟩ ?_ | (refine And.intro ?_ ?_; focus (simp; done)) | fail)
      · have h1 := h
        have hlt : i < l.length := by simpa using h1
        have hg : l.getD i 0 = l[i] := by simp [hlt]
        repeat' ((conv => whnf); first | refine And.intro (fun h => h) ?_ | refine dcond_t (by assumption) ?_ | refine dcond_f (by assumption) ?_ | (refine dcond_intro ?_ ?_ <;> intro h) | exact .refl | refine And.intro (by kernel_rfl) ?_ | refine And.intro ⟨fun h => h, fun h => h⟩ ?_ | refine ⟨_, _, And.intro ⟨rfl, get_map hlt⟩ ?_⟩ | (refine And.intro ?_ ?_; focus (simp; done)) | fail)
        · have h2 := h
          refine dle_bool ?_
          have : okAt l i = false := by simp only [okAt, hg, h2]; rfl
          rw [idsB, allB_false hlt this, Bool.and_false]
        · have h2 := h
          conv => whnf
          refine ⟨i + 1, ⟨hlt, fun j hj => ?_⟩, by simp only []; omega, ?_⟩
          · rcases Nat.lt_succ_iff_lt_or_eq.1 hj with hj | rfl
            · exact hall j hj
            · simp only [okAt, hg, h2]; rfl
          · refine ⟨⟨?_, .refl, .refl, dle_int (wrap_succ (by omega)), trivial⟩, trivial, rfl⟩
            refine dle_int ?_
            simp [hlt]
      · have h1 := h
        have hge : ¬ i < l.length := by simpa using h1
        conv => whnf
        refine dle_bool ?_
        rw [idsB, h0, allB_true.2 (fun j hj => hall j (by omega))]
        rfl
theorem r37 (l : List Int) (hl : l.length ≤ maxLen) : Ret Try.prog 37 [.lst 1 (l.map intE) false] (.v (.bool (idsB l 32))) := by
  refine ret_of_body (fn := Try.f37) (c := Try.f37.body.getD .skip) hm hT (by kernel_rfl) Try.func37 (by kernel_rfl) (by kernel_rfl) (by kernel_rfl) (by kernel_rfl) ?_
  repeat' ((conv => whnf); first | refine And.intro (fun h => h) ?_ | refine dcond_t (by assumption) ?_ | refine dcond_f (by assumption) ?_ | (refine dcond_intro ?_ ?_ <;> intro h) | exact .refl | refine And.intro (by kernel_rfl) ?_ | refine And.intro ⟨fun h => h, fun h => h⟩ ?_ | refine .inl ⟨_, _, DleAll_refl _, r59 _ hl _, ?_⟩ | refine ⟨_, _, DleAll_refl _, r59 _ hl _, ?_⟩ | refine ⟨_, _, DleAll_refl _, fun _ => r59 _ hl _, ?_⟩ | (refine And.intro ?_ ?_; focus (simp; done)) | fail)
def accB (a : Acc) : Bool :=
  bif !decide (a.pro = 0) && !usableB a.pro || decide (a.pro < a.rank) then false
  else bif decide (a.rank = -1) then decide ((a.cut.length : Int) = 0)
  else (decide (a.rank = 0) || usableB a.rank) && idsB a.cut 32
theorem r20 (a : Acc) (hl : a.cut.length ≤ maxLen) : Ret Try.prog 20 [.agg (accE a)] (.v (.bool (accB a))) := by
  refine ret_of_body (fn := Try.f20) (c := Try.f20.body.getD .skip) hm hT (by kernel_rfl) Try.func20 (by kernel_rfl) (by kernel_rfl) (by kernel_rfl) (by kernel_rfl) ?_
  repeat' ((conv => whnf); first | refine And.intro (fun h => h) ?_ | refine dcond_t (by assumption) ?_ | refine dcond_f (by assumption) ?_ | (refine dcond_intro ?_ ?_ <;> intro h) | exact .refl | refine And.intro (by kernel_rfl) ?_ | refine And.intro ⟨fun h => h, fun h => h⟩ ?_ | refine .inl ⟨_, _, DleAll_refl _, r41 _, ?_⟩ | refine ⟨_, _, DleAll_refl _, r41 _, ?_⟩ | refine ⟨_, _, DleAll_refl _, fun _ => r41 _, ?_⟩ | refine .inl ⟨_, _, DleAll_refl _, r37 _ hl, ?_⟩ | refine ⟨_, _, DleAll_refl _, r37 _ hl, ?_⟩ | refine ⟨_, _, DleAll_refl _, fun _ => r37 _ hl, ?_⟩ | (refine And.intro ?_ ?_; focus (simp; done)) | fail)
  all_goals (conv => whnf)
  all_goals refine dle_bool ?_
  all_goals (try simp only [List.length_map] at *)
  all_goals simp only [accB, *, cond_true, cond_false]
def voteR (a : Acc) (cut : List Int) : Acc × Bool :=
  bif !accB a then (⟨0, 0, []⟩, false)
  else bif !decide (a.pro = 0) || !decide (a.rank = -1) || !idsB cut 32 then (a, false)
  else (⟨0, 0, cut⟩, true)
theorem r14 (a : Acc) (hl : a.cut.length ≤ 1000000) (cut : List Int) (hc : cut.length ≤ 1000000) : Ret Try.prog 14 [.agg (accE a), .lst 1 (cut.map intE) false] (.tup [.agg (accE (voteR a cut).1), .v (.bool (voteR a cut).2)]) := by
  have h1 : a.cut.length ≤ maxLen := Nat.le_trans hl (by decide)
  have h2 : cut.length ≤ maxLen := Nat.le_trans hc (by decide)
  refine ret_of_body (fn := Try.f14) (c := Try.f14.body.getD .skip) hm hT (by kernel_rfl) Try.func14 (by kernel_rfl) (by kernel_rfl) (by kernel_rfl) (by kernel_rfl) ?_
  repeat' ((conv => whnf); first | refine And.intro (fun h => h) ?_ | refine dcond_t (by assumption) ?_ | refine dcond_f (by assumption) ?_ | (refine dcond_intro ?_ ?_ <;> intro h) | exact .refl | refine And.intro (by kernel_rfl) ?_ | refine And.intro ⟨fun h => h, fun h => h⟩ ?_ | refine .inl ⟨_, _, DleAll_refl _, r20 _ h1, ?_⟩ | refine ⟨_, _, DleAll_refl _, r20 _ h1, ?_⟩ | refine ⟨_, _, DleAll_refl _, fun _ => r20 _ h1, ?_⟩ | refine .inl ⟨_, _, DleAll_refl _, r37 _ h2, ?_⟩ | refine ⟨_, _, DleAll_refl _, r37 _ h2, ?_⟩ | refine ⟨_, _, DleAll_refl _, fun _ => r37 _ h2, ?_⟩ | refine .inl ⟨_, _, DleAll_refl _, r38 _ hl, ?_⟩ | refine ⟨_, _, DleAll_refl _, r38 _ hl, ?_⟩ | refine ⟨_, _, DleAll_refl _, fun _ => r38 _ hl, ?_⟩ | refine .inl ⟨_, _, DleAll_refl _, r39 _ hc, ?_⟩ | refine ⟨_, _, DleAll_refl _, r39 _ hc, ?_⟩ | refine ⟨_, _, DleAll_refl _, fun _ => r39 _ hc, ?_⟩ | (refine And.intro ?_ ?_; focus (simp; done)) | fail)
  all_goals (conv => whnf)
  all_goals simp only [voteR, *, cond_true, cond_false]
  · exact dle_tupA ⟨dle_aggA ⟨.refl, .refl, .nl, trivial⟩, .refl, trivial⟩
  · exact .refl
  · exact .refl
def prepR (a : Acc) (rank : Int) : Acc × Rpt × Bool :=
  bif !accB a then (⟨0, 0, []⟩, ⟨0, 0, []⟩, false)
  else bif !usableB rank || decide (rank < a.pro) then (a, ⟨0, 0, []⟩, false)
  else (⟨rank, a.rank, a.cut⟩, ⟨0, a.rank, a.cut⟩, true)
theorem r16 (a : Acc) (hl : a.cut.length ≤ 1000000) (rank : Int) : Ret Try.prog 16 [.agg (accE a), .v (.int .i64 rank)] (.tup [.agg (accE (prepR a rank).1), .agg (rptE (prepR a rank).2.1), .v (.bool (prepR a rank).2.2)]) := by
  have h1 : a.cut.length ≤ maxLen := Nat.le_trans hl (by decide)
  refine ret_of_body (fn := Try.f16) (c := Try.f16.body.getD .skip) hm hT (by kernel_rfl) Try.func16 (by kernel_rfl) (by kernel_rfl) (by kernel_rfl) (by kernel_rfl) ?_
  repeat' ((conv => whnf); first | refine And.intro (fun h => h) ?_ | refine dcond_t (by assumption) ?_ | refine dcond_f (by assumption) ?_ | (refine dcond_intro ?_ ?_ <;> intro h) | exact .refl | refine And.intro (by kernel_rfl) ?_ | refine And.intro ⟨fun h => h, fun h => h⟩ ?_ | refine .inl ⟨_, _, DleAll_refl _, r20 _ h1, ?_⟩ | refine ⟨_, _, DleAll_refl _, r20 _ h1, ?_⟩ | refine ⟨_, _, DleAll_refl _, fun _ => r20 _ h1, ?_⟩ | refine .inl ⟨_, _, DleAll_refl _, r41 _, ?_⟩ | refine ⟨_, _, DleAll_refl _, r41 _, ?_⟩ | refine ⟨_, _, DleAll_refl _, fun _ => r41 _, ?_⟩ | refine .inl ⟨_, _, DleAll_refl _, r38 _ hl, ?_⟩ | refine ⟨_, _, DleAll_refl _, r38 _ hl, ?_⟩ | refine ⟨_, _, DleAll_refl _, fun _ => r38 _ hl, ?_⟩ | refine .inl ⟨_, _, DleAll_refl _, r39 _ hl, ?_⟩ | refine ⟨_, _, DleAll_refl _, r39 _ hl, ?_⟩ | refine ⟨_, _, DleAll_refl _, fun _ => r39 _ hl, ?_⟩ | (refine And.intro ?_ ?_; focus (simp; done)) | fail)
  all_goals (conv => whnf)
  all_goals simp only [prepR, *, cond_true, cond_false]
  · exact dle_tupA ⟨dle_aggA ⟨.refl, .refl, .nl, trivial⟩, dle_aggA ⟨.refl, .refl, .nl, trivial⟩, .refl, trivial⟩
  · exact dle_tupA ⟨.refl, dle_aggA ⟨.refl, .refl, .nl, trivial⟩, .refl, trivial⟩
  · exact .refl
end Go.Proofs.Ytmfgjjnmfahcjaa
