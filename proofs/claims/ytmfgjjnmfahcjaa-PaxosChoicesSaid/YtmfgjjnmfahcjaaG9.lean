/- The laws of this seat, part G9: contracts of the functions, plain laws. No conditions. -/
import Derived.Test.YtmfgjjnmfahcjaaF9
set_option linter.unusedSimpArgs false
set_option linter.unusedVariables false
namespace Go.Proofs.Ytmfgjjnmfahcjaa
open Go.Lift
def mergeL : List Int → List Int → List Int
  | a, [] => a
  | a, x :: b => a.takeWhile (fun y => !decide (x < y)) ++ x :: mergeL (a.dropWhile (fun y => !decide (x < y))) b
theorem merge_gt {y x : Int} {a b : List Int} (h : x < y) : mergeL (y :: a) (x :: b) = x :: mergeL (y :: a) b := by simp [mergeL, h]
theorem merge_le {y x : Int} {a b : List Int} (h : ¬ x < y) : mergeL (y :: a) (x :: b) = y :: mergeL a (x :: b) := by simp [mergeL, h]
theorem merge_nil {x : Int} {b : List Int} : mergeL [] (x :: b) = x :: mergeL [] b := by simp [mergeL]
theorem r73 (a b : List Int) (ha : a.length ≤ 500000) (hb : b.length ≤ 500000) : Ret Try.prog 73 [.lst 1 (a.map intE) false, .lst 1 (b.map intE) false] (.lst 1 ((mergeL a b).map intE) false) := by
  refine ret_of_body (fn := Try.f73) (c := Try.f73.body.getD .skip) hm hT (by kernel_rfl) Try.func73 (by kernel_rfl) (by kernel_rfl) (by kernel_rfl) (by kernel_rfl) ?_
  repeat' ((conv => whnf); first | refine And.intro (fun h => h) ?_ | refine dcond_t (by assumption) ?_ | refine dcond_f (by assumption) ?_ | (refine dcond_intro ?_ ?_ <;> intro h) | exact .refl | refine And.intro (by kernel_rfl) ?_ | refine And.intro ⟨fun h => h, fun h => h⟩ ?_ | (refine And.intro ?_ ?_; focus (simp; done)) | fail)
  refine ⟨Nat × Nat × List Int, fun s => ⟨[(0, .lst 1 (a.map intE) false), (5, .own 0), (6, i64 s.2.1), (9, .lst 1 (b.map intE) false), (10, i64 (b.map intE).length), (11, i64 s.1)], [.row 3 1 (s.2.2.map intE)]⟩,
    fun s => s.1 ≤ b.length ∧ s.2.1 ≤ a.length ∧ s.2.2.length ≤ s.1 + s.2.1 ∧ s.2.2 ++ mergeL (a.drop s.2.1) (b.drop s.1) = mergeL a b, fun s => b.length - s.1, [.slot 5 3 1], ⟨(0, 0, []), ⟨Nat.zero_le _, Nat.zero_le _, Nat.zero_le _, rfl⟩, ?_⟩, ?_⟩
  · conv => whnf
    exact ⟨by repeat' ((conv => whnf); first | exact trivial | refine And.intro (by (conv => arg 1; whnf); first | (with_reducible exact .refl) | exact dle_int (wrap_succ (by omega)) | exact .refl) ?_), by repeat' ((conv => whnf); first | exact trivial | refine And.intro ?_ ?_ | exact .refl), rfl⟩
  · intro ⟨j, i, out⟩ ⟨hj, hi, ho, hm⟩
    simp only at hj hi ho hm
    repeat' ((conv => whnf); first | refine And.intro (fun h => h) ?_ | refine dcond_t (by assumption) ?_ | refine dcond_f (by assumption) ?_ | (refine dcond_intro ?_ ?_ <;> intro h) | exact .refl | refine And.intro (by kernel_rfl) ?_ | refine And.intro ⟨fun h => h, fun h => h⟩ ?_ | (refine And.intro ?_ ?_; focus (simp; done)) | fail)
    · have hlt : j < b.length := by simpa using h
      clear h
      have hd : b.drop j = b[j] :: b.drop (j + 1) := List.drop_eq_getElem_cons hlt
      repeat' ((conv => whnf); first | refine And.intro (fun h => h) ?_ | refine dcond_t (by assumption) ?_ | refine dcond_f (by assumption) ?_ | (refine dcond_intro ?_ ?_ <;> intro h) | exact .refl | refine And.intro (by kernel_rfl) ?_ | refine And.intro ⟨fun h => h, fun h => h⟩ ?_ | refine ⟨_, _, And.intro ⟨rfl, get_map hlt⟩ ?_⟩ | (refine And.intro ?_ ?_; focus (simp; done)) | fail)
      conv => whnf
      refine ⟨Nat × List Int, fun s => ⟨[(0, .lst 1 (a.map intE) false), (5, .own 0), (6, i64 s.1), (8, .v (.int .i64 b[j])), (9, .lst 1 (b.map intE) false), (10, i64 (b.map intE).length), (11, i64 j)], [.row 3 1 (s.2.map intE)]⟩,
        fun s => s.1 ≤ a.length ∧ s.2.length ≤ j + s.1 ∧ s.2 ++ mergeL (a.drop s.1) (b.drop j) = mergeL a b, fun s => a.length - s.1, [], ⟨(i, out), ⟨hi, ho, hm⟩, ?_⟩, ?_⟩
      · exact ⟨by repeat' ((conv => whnf); first | exact trivial | refine And.intro (by (conv => arg 1; whnf); first | (with_reducible exact .refl) | exact dle_int (wrap_succ (by omega)) | exact .refl) ?_), by repeat' ((conv => whnf); first | exact trivial | refine And.intro ?_ ?_ | exact .refl), rfl⟩
      · intro ⟨i, out⟩ ⟨hi, ho, hm⟩
        simp only at hi ho hm
        repeat' ((conv => whnf); first | refine And.intro (fun h => h) ?_ | refine dcond_t (by assumption) ?_ | refine dcond_f (by assumption) ?_ | (refine dcond_intro ?_ ?_ <;> intro h) | exact .refl | refine And.intro (by kernel_rfl) ?_ | refine And.intro ⟨fun h => h, fun h => h⟩ ?_ | (refine And.intro ?_ ?_; focus (simp; done)) | fail)
        · have hlt2 : i < a.length := by simpa using h
          clear h
          have hd2 : a.drop i = a[i] :: a.drop (i + 1) := List.drop_eq_getElem_cons hlt2
          repeat' ((conv => whnf); first | refine And.intro (fun h => h) ?_ | refine dcond_t (by assumption) ?_ | refine dcond_f (by assumption) ?_ | (refine dcond_intro ?_ ?_ <;> intro h) | exact .refl | refine And.intro (by kernel_rfl) ?_ | refine And.intro ⟨fun h => h, fun h => h⟩ ?_ | refine ⟨_, _, And.intro ⟨rfl, get_map hlt2⟩ ?_⟩ | (refine And.intro ?_ ?_; focus (simp; done)) | fail)
          · conv => whnf
            refine And.intro (fitsI (by simp; omega)) ?_
            repeat' ((conv => whnf); first | refine And.intro (fun h => h) ?_ | refine dcond_t (by assumption) ?_ | refine dcond_f (by assumption) ?_ | (refine dcond_intro ?_ ?_ <;> intro h) | exact .refl | refine And.intro (by kernel_rfl) ?_ | refine And.intro ⟨fun h => h, fun h => h⟩ ?_ | (refine And.intro ?_ ?_; focus (simp; done)) | fail)
            all_goals (conv => whnf)
            refine ⟨(j + 1, i, out ++ [b[j]]), ⟨hlt, hi, by simp; omega, ?_⟩, by simp only []; omega, ?_⟩
            · have h : b[j] < a[i] := by simpa using h
              rw [hd, hd2, merge_gt h] at hm
              rw [← hm, hd2]
              simp
            · refine ⟨by repeat' ((conv => whnf); first | exact trivial | refine And.intro (by (conv => arg 1; whnf); first | (with_reducible exact .refl) | exact dle_int (wrap_succ (by omega)) | exact .refl) ?_), ⟨ole_row ?_, trivial⟩, rfl⟩
              simp
              rfl
          · conv => whnf
            refine And.intro (fitsI (by simp; omega)) ?_
            repeat' ((conv => whnf); first | refine And.intro (fun h => h) ?_ | refine dcond_t (by assumption) ?_ | refine dcond_f (by assumption) ?_ | (refine dcond_intro ?_ ?_ <;> intro h) | exact .refl | refine And.intro (by kernel_rfl) ?_ | refine And.intro ⟨fun h => h, fun h => h⟩ ?_ | (refine And.intro ?_ ?_; focus (simp; done)) | fail)
            all_goals (conv => whnf)
            refine ⟨(i + 1, out ++ [a[i]]), ⟨hlt2, by simp; omega, ?_⟩, by simp only []; omega, ?_⟩
            · have h : ¬ b[j] < a[i] := by simpa using h
              rw [hd, hd2, merge_le h] at hm
              rw [← hm, hd]
              simp
            · refine ⟨by repeat' ((conv => whnf); first | exact trivial | refine And.intro (by (conv => arg 1; whnf); first | (with_reducible exact .refl) | exact dle_int (wrap_succ (by omega)) | exact .refl) ?_), ⟨ole_row ?_, trivial⟩, rfl⟩
              simp
              rfl
        · have hge : ¬ i < a.length := by simpa using h
          have : i = a.length := by omega
          subst this
          conv => whnf
          refine And.intro (fitsI (by simp; omega)) ?_
          repeat' ((conv => whnf); first | refine And.intro (fun h => h) ?_ | refine dcond_t (by assumption) ?_ | refine dcond_f (by assumption) ?_ | (refine dcond_intro ?_ ?_ <;> intro h) | exact .refl | refine And.intro (by kernel_rfl) ?_ | refine And.intro ⟨fun h => h, fun h => h⟩ ?_ | (refine And.intro ?_ ?_; focus (simp; done)) | fail)
          all_goals (conv => whnf)
          refine ⟨(j + 1, a.length, out ++ [b[j]]), ⟨hlt, hi, by simp; omega, ?_⟩, by simp only []; omega, ?_⟩
          · rw [hd, List.drop_length, merge_nil] at hm
            rw [← hm]
            simp
          · refine ⟨by repeat' ((conv => whnf); first | exact trivial | refine And.intro (by (conv => arg 1; whnf); first | (with_reducible exact .refl) | exact dle_int (wrap_succ (by omega)) | exact .refl) ?_), ⟨ole_row ?_, trivial⟩, rfl⟩
            simp
            rfl
    · have hge : ¬ j < b.length := by simpa using h
      have : j = b.length := by omega
      subst this
      conv => whnf
      refine ⟨i, And.intro ⟨⟨_, rfl⟩, by simpa using hi⟩ ?_⟩
      conv => whnf
      refine And.intro (fitsI (by simp; omega)) ?_
      repeat' ((conv => whnf); first | refine And.intro (fun h => h) ?_ | refine dcond_t (by assumption) ?_ | refine dcond_f (by assumption) ?_ | (refine dcond_intro ?_ ?_ <;> intro h) | exact .refl | refine And.intro (by kernel_rfl) ?_ | refine And.intro ⟨fun h => h, fun h => h⟩ ?_ | (refine And.intro ?_ ?_; focus (simp; done)) | fail)
      all_goals (conv => whnf)
      refine dle_lst ?_
      rw [List.drop_length] at hm
      rw [← hm]
      simp [mergeL]
end Go.Proofs.Ytmfgjjnmfahcjaa
