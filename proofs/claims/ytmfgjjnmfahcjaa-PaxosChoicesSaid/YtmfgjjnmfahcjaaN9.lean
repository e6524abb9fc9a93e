/- The laws of this seat, part N9: contracts of the functions, plain laws. No conditions. -/
import Derived.Test.YtmfgjjnmfahcjaaNref3a
set_option linter.unusedSimpArgs false
set_option linter.unusedVariables false
namespace Go.Proofs.Ytmfgjjnmfahcjaa
open Go.Lift
theorem r23 (a b : List Int) (ha : a.length ≤ maxLen) : Ret Try.prog 23 [.lst 1 (a.map intE) false, .lst 1 (b.map intE) false] (.v (.bool (sameI a b))) := by
  have hl' : a.length ≤ 9223372036854775807 := ha
  refine ret_of_body (fn := Try.f23) (c := Try.f23.body.getD .skip) hm hT (by kernel_rfl) Try.func23 (by kernel_rfl) (by kernel_rfl) (by kernel_rfl) (by kernel_rfl) ?_
  repeat' ((conv => whnf); first | refine And.intro (fun h => h) ?_ | refine dcond_t (by assumption) ?_ | refine dcond_f (by assumption) ?_ | (refine dcond_intro ?_ ?_ <;> intro h) | exact .refl | refine And.intro (by kernel_rfl) ?_ | refine And.intro ⟨fun h => h, fun h => h⟩ ?_ | (refine And.intro ?_ ?_; focus (simp; done)) | fail)
  · refine dle_bool ?_
    simp only [List.length_map] at h
    have h : decide ((a.length : Int) = (b.length : Int)) = false := by simpa using h
    simp only [sameI, h, Bool.false_and]
  · have h0 : a.length = b.length := by
      simp at h
      omega
    clear h
    conv => whnf
    refine ⟨Nat, fun i => ⟨[(0, .lst 1 (a.map intE) false), (1, .lst 1 (b.map intE) false), (5, i64 i)], []⟩, fun i => i ≤ a.length ∧ ∀ j, j < i → decide (a.getD j 0 = b.getD j 0) = true, fun i => a.length - i, [], ⟨0, ⟨Nat.zero_le _, by omega⟩, ?_⟩, ?_⟩
    · exact ⟨by repeat' ((conv => whnf); first | exact trivial | refine And.intro (by (conv => arg 1; whnf); first | (with_reducible exact .refl) | exact dle_int (wrap_succ (by omega)) | exact .refl) ?_), by repeat' ((conv => whnf); first | exact trivial | refine And.intro ?_ ?_ | exact .refl), rfl⟩
    · intro i ⟨hi, hall⟩
      repeat' ((conv => whnf); first | refine And.intro (fun h => h) ?_ | refine dcond_t (by assumption) ?_ | refine dcond_f (by assumption) ?_ | (refine dcond_intro ?_ ?_ <;> intro h) | exact .refl | refine And.intro (by kernel_rfl) ?_ | refine And.intro ⟨fun h => h, fun h => h⟩ ?_ | (refine And.intro ?_ ?_; focus (simp; done)) | fail)
      · have hlt : i < a.length := by simpa using h
        have hlt2 : i < b.length := by omega
        clear h
        have hg : a.getD i 0 = a[i] := by simp [hlt]
        have hg2 : b.getD i 0 = b[i] := by simp [hlt2]
        repeat' ((conv => whnf); first | refine And.intro (fun h => h) ?_ | refine dcond_t (by assumption) ?_ | refine dcond_f (by assumption) ?_ | (refine dcond_intro ?_ ?_ <;> intro h) | exact .refl | refine And.intro (by kernel_rfl) ?_ | refine And.intro ⟨fun h => h, fun h => h⟩ ?_ | refine ⟨_, _, And.intro ⟨rfl, get_map hlt⟩ ?_⟩ | refine ⟨_, _, And.intro ⟨rfl, get_map hlt2⟩ ?_⟩ | (refine And.intro ?_ ?_; focus (simp; done)) | fail)
        · refine dle_bool ?_
          rw [sameI, allB_false hlt (i := i), Bool.and_false]
          rw [hg, hg2]
          simpa using h
        · conv => whnf
          refine ⟨i + 1, ⟨hlt, fun j hj => ?_⟩, by simp only []; omega, ?_⟩
          · rcases Nat.lt_succ_iff_lt_or_eq.1 hj with hj | rfl
            · exact hall j hj
            · rw [hg, hg2]
              simpa using h
          · exact ⟨by repeat' ((conv => whnf); first | exact trivial | refine And.intro (by (conv => arg 1; whnf); first | (with_reducible exact .refl) | exact dle_int (wrap_succ (by omega)) | exact .refl) ?_), by repeat' ((conv => whnf); first | exact trivial | refine And.intro ?_ ?_ | exact .refl), rfl⟩
      · have hge : ¬ i < a.length := by simpa using h
        conv => whnf
        refine dle_bool ?_
        rw [sameI, allB_true.2 (fun j hj => hall j (by omega)), h0]
        simp
theorem owner_low {r : Int} (h : ownerOf r ≠ 0) : 1024 < r := by
  by_cases h1 : 1024 < r ∧ r < 1073741824 ∧ r % 1024 ≤ 1000
  · exact h1.1
  · exact absurd (owner_out h1) h
theorem accB_ref (a : Acc) : (bif (!decide (a.pro = 0) && decide (ownerRef a.pro = 0) || !decide (a.rank = -1) && !decide (a.rank = 0) && decide (ownerRef a.rank = 0) || decide (a.pro < a.rank)) then false
    else bif decide (a.rank < 0) then decide ((a.cut.length : Int) = 0) else cutRB a.cut) = accB a := by
  have ho := @owner_low a.rank
  simp only [accB, cutRB_eq, ownerRef_eq, usableB]
  by_cases h5 : ownerOf a.rank = 0
  · by_cases h1 : a.pro = 0 <;> by_cases h2 : ownerOf a.pro = 0 <;> by_cases h3 : a.rank = -1 <;> by_cases h4 : a.rank = 0 <;> by_cases h6 : a.pro < a.rank <;> by_cases h7 : a.rank < 0 <;> simp [*]
    all_goals try omega
  · have ho := ho h5
    have h3 : ¬ a.rank = -1 := by omega
    have h4 : ¬ a.rank = 0 := by omega
    have h7 : ¬ a.rank < 0 := by omega
    by_cases h1 : a.pro = 0 <;> by_cases h2 : ownerOf a.pro = 0 <;> by_cases h6 : a.pro < a.rank <;> simp [*]
theorem r21 (a : Acc) (hl : a.cut.length ≤ maxLen) : Ret Try.prog 21 [.agg (accE a)] (.v (.bool (accB a))) := by
  refine ret_of_body (fn := Try.f21) (c := Try.f21.body.getD .skip) hm hT (by kernel_rfl) Try.func21 (by kernel_rfl) (by kernel_rfl) (by kernel_rfl) (by kernel_rfl) ?_
  repeat' ((conv => whnf); first | refine And.intro (fun h => h) ?_ | refine dcond_t (by assumption) ?_ | refine dcond_f (by assumption) ?_ | (refine dcond_intro ?_ ?_ <;> intro h) | exact .refl | refine And.intro (by kernel_rfl) ?_ | refine And.intro ⟨fun h => h, fun h => h⟩ ?_ | refine .inl ⟨_, _, DleAll_refl _, r13 _, ?_⟩ | refine ⟨_, _, DleAll_refl _, fun _ => r13 _, ?_⟩ | refine ⟨_, _, DleAll_refl _, r13 _, ?_⟩ | refine .inl ⟨_, _, DleAll_refl _, c_ref3_ValidCut _ hl, ?_⟩ | refine ⟨_, _, DleAll_refl _, fun _ => c_ref3_ValidCut _ hl, ?_⟩ | refine ⟨_, _, DleAll_refl _, c_ref3_ValidCut _ hl, ?_⟩ | (refine And.intro ?_ ?_; focus (simp; done)) | fail)
  all_goals (conv => whnf)
  all_goals refine dle_bool ?_
  all_goals (try simp only [List.length_map])
  all_goals rw [← accB_ref]
  all_goals simp only [*, cond_true, cond_false]
theorem r25 : Ret Try.prog 25 [] (.agg (accE ⟨0, -1, []⟩)) := by
  refine ret_of_body (fn := Try.f25) (c := Try.f25.body.getD .skip) hm hT (by kernel_rfl) Try.func25 (by kernel_rfl) (by kernel_rfl) (by kernel_rfl) (by kernel_rfl) ?_
  repeat' ((conv => whnf); first | refine And.intro (fun h => h) ?_ | refine dcond_t (by assumption) ?_ | refine dcond_f (by assumption) ?_ | (refine dcond_intro ?_ ?_ <;> intro h) | exact .refl | refine And.intro (by kernel_rfl) ?_ | refine And.intro ⟨fun h => h, fun h => h⟩ ?_ | (refine And.intro ?_ ?_; focus (simp; done)) | fail)
  all_goals (conv => whnf)
  exact dle_aggA ⟨.refl, .refl, .nl, trivial⟩
def sameA (a b : Acc) : Bool := decide (a.pro = b.pro) && decide (a.rank = b.rank) && sameI a.cut b.cut
theorem r22 (a b : Acc) (hl : a.cut.length ≤ maxLen) : Ret Try.prog 22 [.agg (accE a), .agg (accE b)] (.v (.bool (sameA a b))) := by
  refine ret_of_body (fn := Try.f22) (c := Try.f22.body.getD .skip) hm hT (by kernel_rfl) Try.func22 (by kernel_rfl) (by kernel_rfl) (by kernel_rfl) (by kernel_rfl) ?_
  repeat' ((conv => whnf); first | refine And.intro (fun h => h) ?_ | refine dcond_t (by assumption) ?_ | refine dcond_f (by assumption) ?_ | (refine dcond_intro ?_ ?_ <;> intro h) | exact .refl | refine And.intro (by kernel_rfl) ?_ | refine And.intro ⟨fun h => h, fun h => h⟩ ?_ | refine .inl ⟨_, _, DleAll_refl _, c_ref1_SameInts _ _ hl, ?_⟩ | refine ⟨_, _, DleAll_refl _, fun _ => c_ref1_SameInts _ _ hl, ?_⟩ | refine ⟨_, _, DleAll_refl _, c_ref1_SameInts _ _ hl, ?_⟩ | (refine And.intro ?_ ?_; focus (simp; done)) | fail)
theorem r15 (a : Acc) (hl : a.cut.length ≤ maxLen) (cut : List Int) (hc : cut.length ≤ maxLen) : Ret Try.prog 15 [.agg (accE a), .lst 1 (cut.map intE) false] (.tup [.agg (accE (voteR a cut).1), .v (.bool (voteR a cut).2)]) := by
  refine ret_of_body (fn := Try.f15) (c := Try.f15.body.getD .skip) hm hT (by kernel_rfl) Try.func15 (by kernel_rfl) (by kernel_rfl) (by kernel_rfl) (by kernel_rfl) ?_
  repeat' ((conv => whnf); first | refine And.intro (fun h => h) ?_ | refine dcond_t (by assumption) ?_ | refine dcond_f (by assumption) ?_ | (refine dcond_intro ?_ ?_ <;> intro h) | exact .refl | refine And.intro (by kernel_rfl) ?_ | refine And.intro ⟨fun h => h, fun h => h⟩ ?_ | refine .inl ⟨_, _, DleAll_refl _, r21 _ hl, ?_⟩ | refine ⟨_, _, DleAll_refl _, fun _ => r21 _ hl, ?_⟩ | refine ⟨_, _, DleAll_refl _, r21 _ hl, ?_⟩ | refine .inl ⟨_, _, DleAll_refl _, c_ref3_ValidCut _ hc, ?_⟩ | refine ⟨_, _, DleAll_refl _, fun _ => c_ref3_ValidCut _ hc, ?_⟩ | refine ⟨_, _, DleAll_refl _, c_ref3_ValidCut _ hc, ?_⟩ | (refine And.intro ?_ ?_; focus (simp; done)) | fail)
  all_goals (conv => whnf)
  all_goals (try simp only [cutRB_eq] at *)
  all_goals simp only [voteR, *, cond_true, cond_false]
  · exact dle_tupA ⟨dle_aggA ⟨.refl, .refl, .nl, trivial⟩, .refl, trivial⟩
  · exact .refl
  · exact .refl
theorem r17 (a : Acc) (hl : a.cut.length ≤ maxLen) (rank : Int) : Ret Try.prog 17 [.agg (accE a), .v (.int .i64 rank)] (.tup [.agg (accE (prepR a rank).1), .agg (rptE (prepR a rank).2.1), .v (.bool (prepR a rank).2.2)]) := by
  refine ret_of_body (fn := Try.f17) (c := Try.f17.body.getD .skip) hm hT (by kernel_rfl) Try.func17 (by kernel_rfl) (by kernel_rfl) (by kernel_rfl) (by kernel_rfl) ?_
  repeat' ((conv => whnf); first | refine And.intro (fun h => h) ?_ | refine dcond_t (by assumption) ?_ | refine dcond_f (by assumption) ?_ | (refine dcond_intro ?_ ?_ <;> intro h) | exact .refl | refine And.intro (by kernel_rfl) ?_ | refine And.intro ⟨fun h => h, fun h => h⟩ ?_ | refine .inl ⟨_, _, DleAll_refl _, r21 _ hl, ?_⟩ | refine ⟨_, _, DleAll_refl _, fun _ => r21 _ hl, ?_⟩ | refine ⟨_, _, DleAll_refl _, r21 _ hl, ?_⟩ | refine .inl ⟨_, _, DleAll_refl _, r13 _, ?_⟩ | refine ⟨_, _, DleAll_refl _, fun _ => r13 _, ?_⟩ | refine ⟨_, _, DleAll_refl _, r13 _, ?_⟩ | (refine And.intro ?_ ?_; focus (simp; done)) | fail)
  all_goals (conv => whnf)
  all_goals (try simp only [ownerRef_eq] at *)
  all_goals simp only [prepR, usableB, Bool.not_not, *, cond_true, cond_false]
  · exact dle_tupA ⟨dle_aggA ⟨.refl, .refl, .nl, trivial⟩, dle_aggA ⟨.refl, .refl, .nl, trivial⟩, .refl, trivial⟩
  · exact dle_tupA ⟨.refl, dle_aggA ⟨.refl, .refl, .nl, trivial⟩, .refl, trivial⟩
  · exact .refl
theorem r19 (a : Acc) (hl : a.cut.length ≤ maxLen) (rank : Int) (cut : List Int) (hc : cut.length ≤ maxLen) : Ret Try.prog 19 [.agg (accE a), .v (.int .i64 rank), .lst 1 (cut.map intE) false] (.tup [.agg (accE (acceptR a rank cut).1), .v (.bool (acceptR a rank cut).2)]) := by
  refine ret_of_body (fn := Try.f19) (c := Try.f19.body.getD .skip) hm hT (by kernel_rfl) Try.func19 (by kernel_rfl) (by kernel_rfl) (by kernel_rfl) (by kernel_rfl) ?_
  repeat' ((conv => whnf); first | refine And.intro (fun h => h) ?_ | refine dcond_t (by assumption) ?_ | refine dcond_f (by assumption) ?_ | (refine dcond_intro ?_ ?_ <;> intro h) | exact .refl | refine And.intro (by kernel_rfl) ?_ | refine And.intro ⟨fun h => h, fun h => h⟩ ?_ | refine .inl ⟨_, _, DleAll_refl _, r21 _ hl, ?_⟩ | refine ⟨_, _, DleAll_refl _, fun _ => r21 _ hl, ?_⟩ | refine ⟨_, _, DleAll_refl _, r21 _ hl, ?_⟩ | refine .inl ⟨_, _, DleAll_refl _, r13 _, ?_⟩ | refine ⟨_, _, DleAll_refl _, fun _ => r13 _, ?_⟩ | refine ⟨_, _, DleAll_refl _, r13 _, ?_⟩ | refine .inl ⟨_, _, DleAll_refl _, c_ref3_ValidCut _ hc, ?_⟩ | refine ⟨_, _, DleAll_refl _, fun _ => c_ref3_ValidCut _ hc, ?_⟩ | refine ⟨_, _, DleAll_refl _, c_ref3_ValidCut _ hc, ?_⟩ | refine .inl ⟨_, _, DleAll_refl _, c_ref1_SameInts _ _ hl, ?_⟩ | refine ⟨_, _, DleAll_refl _, fun _ => c_ref1_SameInts _ _ hl, ?_⟩ | refine ⟨_, _, DleAll_refl _, c_ref1_SameInts _ _ hl, ?_⟩ | (refine And.intro ?_ ?_; focus (simp; done)) | fail)
  all_goals (conv => whnf)
  all_goals (try simp only [ownerRef_eq, cutRB_eq] at *)
  all_goals simp only [acceptR, usableB, Bool.not_not, *, cond_true, cond_false]
  · exact dle_tupA ⟨dle_aggA ⟨.refl, .refl, .nl, trivial⟩, .refl, trivial⟩
  · exact .refl
  · exact .refl
theorem sameI_refl (l : List Int) : sameI l l = true := by
  simp only [sameI, decide_true, Bool.true_and]
  exact allB_true.2 (fun j _ => by simp)
theorem vote_len {a : Acc} {cut : List Int} {N : Nat} (h1 : a.cut.length ≤ N) (h2 : cut.length ≤ N) : (voteR a cut).1.cut.length ≤ N := by
  unfold voteR
  cases !accB a <;> simp only [cond_true, cond_false]
  · cases (!decide (a.pro = 0) || !decide (a.rank = -1) || !idsB cut 32) <;> simp only [cond_true, cond_false] <;> assumption
  · simp
theorem prep_len {a : Acc} {rank : Int} {N : Nat} (h1 : a.cut.length ≤ N) : (prepR a rank).1.cut.length ≤ N ∧ (prepR a rank).2.1.cut.length ≤ N := by
  unfold prepR
  cases !accB a <;> simp only [cond_true, cond_false]
  · cases (!usableB rank || decide (rank < a.pro)) <;> simp only [cond_true, cond_false]
    · exact ⟨h1, h1⟩
    · exact ⟨h1, by simp⟩
  · simp
theorem accept_len {a : Acc} {rank : Int} {cut : List Int} {N : Nat} (h1 : a.cut.length ≤ N) (h2 : cut.length ≤ N) : (acceptR a rank cut).1.cut.length ≤ N := by
  unfold acceptR
  cases !accB a <;> simp only [cond_true, cond_false]
  · cases (!usableB rank || decide (rank < a.pro) || !idsB cut 32 || decide (a.rank = rank) && !sameI a.cut cut) <;> simp only [cond_true, cond_false] <;> assumption
  · simp
theorem r4 (a : Acc) (ha : a.cut.length ≤ maxLen) (rank : Int) (cut : List Int) (hc : cut.length ≤ maxLen) : Ret Try.prog 4 [.agg (accE a), .v (.int .i64 rank), .lst 1 (cut.map intE) false] (.v (.bool true)) := by
  have v6 : (voteR a cut).1.cut.length ≤ maxLen := vote_len ha hc
  have p6 : (prepR a rank).1.cut.length ≤ maxLen := (prep_len ha).1
  have q6 : (prepR a rank).2.1.cut.length ≤ maxLen := (prep_len ha).2
  have t6 : (acceptR a rank cut).1.cut.length ≤ maxLen := accept_len ha hc
  have e14 := fun a6 c6 => r14 a a6 cut c6
  have e15 := r15 a ha cut hc
  have e16 := fun a6 => r16 a a6 rank
  have e17 := r17 a ha rank
  have e18 := fun a6 c6 => r18 a a6 rank cut c6
  have e19 := r19 a ha rank cut hc
  have e20 := r20 a ha
  have e21 := r21 a ha
  generalize voteR a cut = vb at v6 e14 e15
  generalize prepR a rank = pb at p6 q6 e16 e17
  generalize acceptR a rank cut = tb at t6 e18 e19
  generalize accB a = ab at e20 e21
  obtain ⟨vb, vo⟩ := vb
  obtain ⟨pb, pr, po⟩ := pb
  obtain ⟨tb, to⟩ := tb
  refine ret_of_body (fn := Try.f4) (c := Try.f4.body.getD .skip) hm hT (by kernel_rfl) Try.func4 (by kernel_rfl) (by kernel_rfl) (by kernel_rfl) (by kernel_rfl) ?_
  repeat' ((conv => whnf); first | refine And.intro (fun h => h) ?_ | refine dcond_t (by assumption) ?_ | refine dcond_f (by assumption) ?_ | (refine dcond_intro ?_ ?_ <;> intro h) | exact .refl | refine And.intro (by kernel_rfl) ?_ | refine And.intro ⟨fun h => h, fun h => h⟩ ?_ | refine .inl ⟨_, _, DleAll_refl _, r9, ?_⟩ | refine ⟨_, _, DleAll_refl _, fun _ => r9, ?_⟩ | refine ⟨_, _, DleAll_refl _, r9, ?_⟩ | (refine And.intro ?_ ?_; focus (simp; done)) | fail)
  all_goals (conv => whnf)
  have hs : a.cut.length ≤ 60 ∧ cut.length ≤ 60 := by
    simp only [List.length_map, Bool.or_eq_false_iff, decide_eq_false_iff_not] at h
    omega
  clear h
  have a6 : a.cut.length ≤ 1000000 := by omega
  have c6 : cut.length ≤ 1000000 := by omega
  have e14 := e14 a6 c6
  have e16 := e16 a6
  have e18 := e18 a6 c6
  repeat' ((conv => whnf); first | refine And.intro (fun h => h) ?_ | refine dcond_t (by assumption) ?_ | refine dcond_f (by assumption) ?_ | (refine dcond_intro ?_ ?_ <;> intro h) | exact .refl | refine And.intro (by kernel_rfl) ?_ | refine And.intro ⟨fun h => h, fun h => h⟩ ?_ | refine .inl ⟨_, _, DleAll_refl _, e14, ?_⟩ | refine ⟨_, _, DleAll_refl _, fun _ => e14, ?_⟩ | refine ⟨_, _, DleAll_refl _, e14, ?_⟩ | refine .inl ⟨_, _, DleAll_refl _, e15, ?_⟩ | refine ⟨_, _, DleAll_refl _, fun _ => e15, ?_⟩ | refine ⟨_, _, DleAll_refl _, e15, ?_⟩ | refine .inl ⟨_, _, DleAll_refl _, e16, ?_⟩ | refine ⟨_, _, DleAll_refl _, fun _ => e16, ?_⟩ | refine ⟨_, _, DleAll_refl _, e16, ?_⟩ | refine .inl ⟨_, _, DleAll_refl _, e17, ?_⟩ | refine ⟨_, _, DleAll_refl _, fun _ => e17, ?_⟩ | refine ⟨_, _, DleAll_refl _, e17, ?_⟩ | refine .inl ⟨_, _, DleAll_refl _, e18, ?_⟩ | refine ⟨_, _, DleAll_refl _, fun _ => e18, ?_⟩ | refine ⟨_, _, DleAll_refl _, e18, ?_⟩ | refine .inl ⟨_, _, DleAll_refl _, e19, ?_⟩ | refine ⟨_, _, DleAll_refl _, fun _ => e19, ?_⟩ | refine ⟨_, _, DleAll_refl _, e19, ?_⟩ | refine .inl ⟨_, _, DleAll_refl _, e20, ?_⟩ | refine ⟨_, _, DleAll_refl _, fun _ => e20, ?_⟩ | refine ⟨_, _, DleAll_refl _, e20, ?_⟩ | refine .inl ⟨_, _, DleAll_refl _, e21, ?_⟩ | refine ⟨_, _, DleAll_refl _, fun _ => e21, ?_⟩ | refine ⟨_, _, DleAll_refl _, e21, ?_⟩ | refine .inl ⟨_, _, DleAll_refl _, r22 vb vb v6, ?_⟩ | refine ⟨_, _, DleAll_refl _, fun _ => r22 vb vb v6, ?_⟩ | refine ⟨_, _, DleAll_refl _, r22 vb vb v6, ?_⟩ | refine .inl ⟨_, _, DleAll_refl _, r22 pb pb p6, ?_⟩ | refine ⟨_, _, DleAll_refl _, fun _ => r22 pb pb p6, ?_⟩ | refine ⟨_, _, DleAll_refl _, r22 pb pb p6, ?_⟩ | refine .inl ⟨_, _, DleAll_refl _, r23 _ _ q6, ?_⟩ | refine ⟨_, _, DleAll_refl _, fun _ => r23 _ _ q6, ?_⟩ | refine ⟨_, _, DleAll_refl _, r23 _ _ q6, ?_⟩ | refine .inl ⟨_, _, DleAll_refl _, r22 tb tb t6, ?_⟩ | refine ⟨_, _, DleAll_refl _, fun _ => r22 tb tb t6, ?_⟩ | refine ⟨_, _, DleAll_refl _, r22 tb tb t6, ?_⟩ | refine .inl ⟨_, _, DleAll_refl _, r24, ?_⟩ | refine ⟨_, _, DleAll_refl _, fun _ => r24, ?_⟩ | refine ⟨_, _, DleAll_refl _, r24, ?_⟩ | refine .inl ⟨_, _, DleAll_refl _, r25, ?_⟩ | refine ⟨_, _, DleAll_refl _, fun _ => r25, ?_⟩ | refine ⟨_, _, DleAll_refl _, r25, ?_⟩ | refine .inl ⟨_, _, DleAll_refl _, r22 ⟨0, -1, []⟩ ⟨0, -1, []⟩ (by decide), ?_⟩ | refine ⟨_, _, DleAll_refl _, fun _ => r22 ⟨0, -1, []⟩ ⟨0, -1, []⟩ (by decide), ?_⟩ | refine ⟨_, _, DleAll_refl _, r22 ⟨0, -1, []⟩ ⟨0, -1, []⟩ (by decide), ?_⟩ | (refine And.intro ?_ ?_; focus (simp; done)) | fail)
  all_goals (conv => whnf)
  refine dle_bool ?_
  simp [sameA, sameI_refl]
theorem dat_ints {n : Nat} {r : List DV} (h : Dat tt (n + 2) 26 r) : ∃ l : List Int, r = [.lst 1 (l.map intE) false] ∧ l.length ≤ maxLen := by
  obtain ⟨es, rfl, hl, hes⟩ := h
  obtain ⟨d, rfl, _⟩ := list_data (f := intE) (Q := fun _ => True) (fun r hr => by
    obtain ⟨i, rfl, _⟩ := hes r hr
    exact ⟨i, rfl, trivial⟩)
  exact ⟨d, rfl, by simpa using hl⟩
theorem dat_acc {n : Nat} {r : List DV} (h : Dat tt (n + 3) 28 r) : ∃ a : Acc, r = accE a ∧ a.cut.length ≤ maxLen := by
  obtain ⟨_, _, rfl, ⟨p, rfl, _⟩, _, _, rfl, ⟨k, rfl, _⟩, _, _, rfl, hl, rfl⟩ := h
  obtain ⟨l, rfl, hll⟩ := dat_ints (n := n) hl
  exact ⟨⟨p, k, l⟩, rfl, hll⟩
theorem law4 (dvs : List DV) (h : DatAll tt 5 [28, 3, 26] dvs) : Ret Try.prog 4 dvs (.v (.bool true)) := by
  obtain ⟨a, _, rfl, ha, b, _, rfl, ⟨k, rfl, _⟩, c, _, rfl, hc, rfl⟩ := h
  obtain ⟨a, rfl, hl⟩ := dat_acc (n := 2) ha
  obtain ⟨c, rfl, hcl⟩ := dat_ints (n := 3) hc
  exact r4 a hl k c hcl
end Go.Proofs.Ytmfgjjnmfahcjaa
