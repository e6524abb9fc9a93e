/- The laws of this seat, part M9: contracts of the functions, plain laws. No conditions. -/
import Derived.Test.YtmfgjjnmfahcjaaL9
set_option linter.unusedSimpArgs false
set_option linter.unusedVariables false
namespace Go.Proofs.Ytmfgjjnmfahcjaa
open Go.Lift
theorem rankOf_in {a m : Int} (h1 : 1 ≤ a) (h2 : a ≤ 1048575) (h3 : 1 ≤ m) (h4 : m ≤ 1000) : rankOf a m = 1024 * a + m := by
  have e : (decide (a < 1) || decide (1048575 < a) || decide (m < 1) || decide (1000 < m)) = false := by
    simp only [Bool.or_eq_false_iff, decide_eq_false_iff_not]; omega
  simp only [rankOf, e, cond_false]
  rw [wrap_i64 (n := 1024 * a) (by omega) (by omega), wrap_i64 (by omega) (by omega)]
theorem rankOf_out {a m : Int} (h : ¬ (1 ≤ a ∧ a ≤ 1048575 ∧ 1 ≤ m ∧ m ≤ 1000)) : rankOf a m = 0 := by
  have e : (decide (a < 1) || decide (1048575 < a) || decide (m < 1) || decide (1000 < m)) = true := by
    simp only [Bool.or_eq_true, decide_eq_true_eq]; omega
  simp only [rankOf, e, cond_true]
theorem rankRef_eq (a m : Int) : rankRef a m = rankOf a m := by
  have e : (decide (a < 1) || decide (1048575 < a) || !(decide (1 ≤ m) && decide (m ≤ 1000))) = (decide (a < 1) || decide (1048575 < a) || decide (m < 1) || decide (1000 < m)) := by
    rw [Bool.eq_iff_iff]
    simp only [Bool.or_eq_true, decide_eq_true_eq, Bool.not_eq_true', Bool.and_eq_false_iff, decide_eq_false_iff_not]
    omega
  simp only [rankRef, rankOf, e]
theorem owner_in {r : Int} (h1 : 1024 < r) (h2 : r < 1073741824) (h3 : r % 1024 ≤ 1000) : ownerOf r = r % 1024 := by
  have em : r.tmod 1024 = r % 1024 := Int.tmod_eq_emod_of_nonneg (by omega)
  have e : (decide (r ≤ 1024) || decide (1073741824 ≤ r) || decide (1000 < r.tmod 1024)) = false := by
    rw [em]
    simp only [Bool.or_eq_false_iff, decide_eq_false_iff_not]; omega
  simp only [ownerOf]
  rw [e, cond_false, em]
theorem owner_out {r : Int} (h : ¬ (1024 < r ∧ r < 1073741824 ∧ r % 1024 ≤ 1000)) : ownerOf r = 0 := by
  have e : (decide (r ≤ 1024) || decide (1073741824 ≤ r) || decide (1000 < r.tmod 1024)) = true := by
    simp only [Bool.or_eq_true, decide_eq_true_eq]
    by_cases hp : 0 ≤ r
    · rw [Int.tmod_eq_emod_of_nonneg hp]; omega
    · omega
  simp only [ownerOf, e, cond_true]
theorem ownerRef_eq (r : Int) : ownerRef r = ownerOf r := by
  by_cases h : 1024 < r ∧ r < 1073741824
  · have em : r.tmod 1024 = r % 1024 := Int.tmod_eq_emod_of_nonneg (by omega)
    by_cases h3 : r % 1024 ≤ 1000
    · rw [owner_in h.1 h.2 h3]
      by_cases h4 : 1 ≤ r % 1024
      · have e : (decide (r < 1025) || decide (1073741823 < r) || !(decide (1 ≤ r.tmod 1024) && decide (r.tmod 1024 ≤ 1000))) = false := by
          rw [em]
          simp only [Bool.or_eq_false_iff, decide_eq_false_iff_not, Bool.not_eq_false', Bool.and_eq_true, decide_eq_true_eq]; omega
        simp only [ownerRef]
        rw [e, cond_false, em]
      · have e : (decide (r < 1025) || decide (1073741823 < r) || !(decide (1 ≤ r.tmod 1024) && decide (r.tmod 1024 ≤ 1000))) = true := by
          rw [em]
          simp only [Bool.or_eq_true, decide_eq_true_eq, Bool.not_eq_true', Bool.and_eq_false_iff, decide_eq_false_iff_not]; omega
        simp only [ownerRef, e, cond_true]
        omega
    · rw [owner_out (by omega)]
      have e : (decide (r < 1025) || decide (1073741823 < r) || !(decide (1 ≤ r.tmod 1024) && decide (r.tmod 1024 ≤ 1000))) = true := by
        rw [em]
        simp only [Bool.or_eq_true, decide_eq_true_eq, Bool.not_eq_true', Bool.and_eq_false_iff, decide_eq_false_iff_not]; omega
      simp only [ownerRef, e, cond_true]
  · rw [owner_out (by omega)]
    have e : (decide (r < 1025) || decide (1073741823 < r)) = true := by
      simp only [Bool.or_eq_true, decide_eq_true_eq]; omega
    simp only [ownerRef, e, Bool.true_or, cond_true]
theorem ranks_law (a m r : Int) : (decide (rankOf a m = rankRef a m) && decide (ownerOf r = ownerRef r) && (decide (rankOf a m = 0) || decide (ownerOf (rankOf a m) = m)) &&
    (decide (ownerOf r = 0) || decide (rankOf (IntKind.i64.wrap (r.tdiv 1024)) (r.tmod 1024) = r))) = true := by
  simp only [rankRef_eq, ownerRef_eq, decide_true, Bool.true_and, Bool.and_eq_true, Bool.or_eq_true, decide_eq_true_eq]
  refine ⟨?_, ?_⟩
  · by_cases h : 1 ≤ a ∧ a ≤ 1048575 ∧ 1 ≤ m ∧ m ≤ 1000
    · rw [rankOf_in h.1 h.2.1 h.2.2.1 h.2.2.2]
      have e : (1024 * a + m) % 1024 = m := by omega
      exact .inr (by rw [owner_in (by omega) (by omega) (by omega), e])
    · exact .inl (rankOf_out h)
  · by_cases h : 1024 < r ∧ r < 1073741824 ∧ r % 1024 ≤ 1000
    · rw [owner_in h.1 h.2.1 h.2.2]
      by_cases h0 : r % 1024 = 0
      · exact .inl h0
      · right
        rw [Int.tmod_eq_emod_of_nonneg (by omega), Int.tdiv_eq_ediv_of_nonneg (by omega), wrap_i64 (by omega) (by omega)]
        rw [rankOf_in (by omega) (by omega) (by omega) (by omega)]
        omega
    · exact .inl (owner_out h)
theorem r3 (a m r : Int) : Ret Try.prog 3 [.v (.int .i64 a), .v (.int .i64 m), .v (.int .i64 r)] (.v (.bool true)) := by
  refine ret_of_body (fn := Try.f3) (c := Try.f3.body.getD .skip) hm hT (by kernel_rfl) Try.func3 (by kernel_rfl) (by kernel_rfl) (by kernel_rfl) (by kernel_rfl) ?_
  repeat' ((conv => whnf); first | refine And.intro (fun h => h) ?_ | refine dcond_t (by assumption) ?_ | refine dcond_f (by assumption) ?_ | (refine dcond_intro ?_ ?_ <;> intro h) | exact .refl | refine And.intro (by kernel_rfl) ?_ | refine And.intro ⟨fun h => h, fun h => h⟩ ?_ | refine .inl ⟨_, _, DleAll_refl _, r9, ?_⟩ | refine ⟨_, _, DleAll_refl _, r9, ?_⟩ | refine ⟨_, _, DleAll_refl _, fun _ => r9, ?_⟩ | refine .inl ⟨_, _, DleAll_refl _, r10 _ _, ?_⟩ | refine ⟨_, _, DleAll_refl _, r10 _ _, ?_⟩ | refine ⟨_, _, DleAll_refl _, fun _ => r10 _ _, ?_⟩ | refine .inl ⟨_, _, DleAll_refl _, r11 _ _, ?_⟩ | refine ⟨_, _, DleAll_refl _, r11 _ _, ?_⟩ | refine ⟨_, _, DleAll_refl _, fun _ => r11 _ _, ?_⟩ | refine .inl ⟨_, _, DleAll_refl _, r12 _, ?_⟩ | refine ⟨_, _, DleAll_refl _, r12 _, ?_⟩ | refine ⟨_, _, DleAll_refl _, fun _ => r12 _, ?_⟩ | refine .inl ⟨_, _, DleAll_refl _, r13 _, ?_⟩ | refine ⟨_, _, DleAll_refl _, r13 _, ?_⟩ | refine ⟨_, _, DleAll_refl _, fun _ => r13 _, ?_⟩ | (refine And.intro ?_ ?_; focus (simp; done)) | fail)
  all_goals (conv => whnf)
  exact dle_bool (ranks_law a m r)
theorem law3 (dvs : List DV) (h : DatAll tt 5 [3, 3, 3] dvs) : Ret Try.prog 3 dvs (.v (.bool true)) := by
  obtain ⟨a, _, rfl, ⟨i, rfl, hi⟩, b, _, rfl, ⟨j, rfl, hj⟩, c, _, rfl, ⟨k, rfl, hk⟩, rfl⟩ := h
  exact r3 i j k
end Go.Proofs.Ytmfgjjnmfahcjaa
