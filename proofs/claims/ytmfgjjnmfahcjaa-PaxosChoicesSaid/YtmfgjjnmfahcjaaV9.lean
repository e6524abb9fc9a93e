/- The laws of this seat, part V9: contracts of the functions, plain laws. No conditions. -/
import Derived.Test.YtmfgjjnmfahcjaaU9
set_option linter.unusedSimpArgs false
set_option linter.unusedVariables false
namespace Go.Proofs.Ytmfgjjnmfahcjaa
open Go.Lift
theorem r35 (l : List Rpt) (hl : l.length ≤ maxLen) (hc : ∀ r ∈ l, r.cut.length ≤ maxLen) : Ret Try.prog 35 [.lst 3 (l.map rptE) false, .lst 3 (l.map rptE) false] (.v (.bool true)) := by
  have hl' : l.length ≤ 9223372036854775807 := hl
  refine ret_of_body (fn := Try.f35) (c := Try.f35.body.getD .skip) hm hT (by kernel_rfl) Try.func35 (by kernel_rfl) (by kernel_rfl) (by kernel_rfl) (by kernel_rfl) ?_
  repeat' ((conv => whnf); first | refine And.intro (fun h => h) ?_ | refine dcond_t (by assumption) ?_ | refine dcond_f (by assumption) ?_ | (refine dcond_intro ?_ ?_ <;> intro h) | exact .refl | refine And.intro (by kernel_rfl) ?_ | refine And.intro ⟨fun h => h, fun h => h⟩ ?_ | (refine And.intro ?_ ?_; focus (simp; done)) | fail)
  · exfalso
    simp at h
  · refine ⟨Nat, fun i => ⟨[(0, .lst 3 (l.map rptE) false), (1, .lst 3 (l.map rptE) false), (5, i64 i)], []⟩, fun i => i ≤ l.length, fun i => l.length - i, [], ⟨0, Nat.zero_le _, ?_⟩, ?_⟩
    · exact ⟨by repeat' ((conv => whnf); first | exact trivial | refine And.intro (by (conv => arg 1; whnf); first | (with_reducible exact .refl) | exact dle_int (wrap_succ (by omega)) | exact .refl) ?_), by repeat' ((conv => whnf); first | exact trivial | refine And.intro ?_ ?_ | exact .refl), rfl⟩
    · intro i hi
      repeat' ((conv => whnf); first | refine And.intro (fun h => h) ?_ | refine dcond_t (by assumption) ?_ | refine dcond_f (by assumption) ?_ | (refine dcond_intro ?_ ?_ <;> intro h) | exact .refl | refine And.intro (by kernel_rfl) ?_ | refine And.intro ⟨fun h => h, fun h => h⟩ ?_ | (refine And.intro ?_ ?_; focus (simp; done)) | fail)
      · have hlt : i < l.length := by simpa using h
        clear h
        have e := c_ref1_SameInts (l[i].cut) (l[i].cut) (hc _ (List.getElem_mem hlt))
        rw [sameI_refl] at e
        repeat' ((conv => whnf); first | refine And.intro (fun h => h) ?_ | refine dcond_t (by assumption) ?_ | refine dcond_f (by assumption) ?_ | (refine dcond_intro ?_ ?_ <;> intro h) | exact .refl | refine And.intro (by kernel_rfl) ?_ | refine And.intro ⟨fun h => h, fun h => h⟩ ?_ | refine ⟨_, _, And.intro ⟨rfl, get_map hlt⟩ ?_⟩ | refine .inl ⟨_, _, DleAll_refl _, e, ?_⟩ | refine ⟨_, _, DleAll_refl _, fun _ => e, ?_⟩ | refine ⟨_, _, DleAll_refl _, e, ?_⟩ | refine ⟨i, rptE (l[i]'hlt), And.intro ⟨⟨fun h => h, fun h => h⟩, fun hg => ⟨rfl, get_map hlt⟩⟩ ?_⟩ | (refine And.intro ?_ ?_; focus (simp; done)) | fail)
        all_goals (conv => whnf)
        · exfalso
          simp at h
        · refine ⟨i + 1, hlt, by simp only []; omega, ?_⟩
          exact ⟨by repeat' ((conv => whnf); first | exact trivial | refine And.intro (by (conv => arg 1; whnf); first | (with_reducible exact .refl) | exact dle_int (wrap_succ (by omega)) | exact .refl) ?_), by repeat' ((conv => whnf); first | exact trivial | refine And.intro ?_ ?_ | exact .refl), rfl⟩
/-- the reference's best report so far -/
def bestAt (l : List Rpt) : Nat → Int
  | 0 => -1
  | i + 1 => bif decide (0 < (l.getD (hiAt l (i + 1)) rpt0).rank) then ((hiAt l (i + 1) : Nat) : Int) else -1
theorem hi_succ (l : List Rpt) (i : Nat) : hiAt l (i + 1) = bif decide ((l.getD (hiAt l i) rpt0).rank < (l.getD i rpt0).rank) then i else hiAt l i := rfl
theorem best_cases (l : List Rpt) (i : Nat) : (bestAt l i = -1 ∧ (0 < i → (l.getD (hiAt l i) rpt0).rank ≤ 0)) ∨ (bestAt l i = ((hiAt l i : Nat) : Int) ∧ 0 < (l.getD (hiAt l i) rpt0).rank ∧ 0 < i) := by
  cases i with
  | zero => exact .inl ⟨rfl, fun h => absurd h (by omega)⟩
  | succ i =>
    simp only [bestAt]
    cases h : decide (0 < (l.getD (hiAt l (i + 1)) rpt0).rank)
    · refine .inl ⟨rfl, fun _ => ?_⟩
      simp only [decide_eq_false_iff_not] at h
      omega
    · refine .inr ⟨rfl, ?_, by omega⟩
      simpa using h
/-- what the loop asks of report 'i' -/
def bestQ (l : List Rpt) (i : Nat) : Bool := decide (0 < (l.getD i rpt0).rank) && (decide (bestAt l i < 0) || decide ((l.getD (hiAt l i) rpt0).rank < (l.getD i rpt0).rank))
theorem best_yes {l : List Rpt} {i : Nat} (h : bestQ l i = true) : bestAt l (i + 1) = (i : Int) := by
  simp only [bestQ, Bool.and_eq_true, Bool.or_eq_true, decide_eq_true_eq] at h
  obtain ⟨h1, h2⟩ := h
  have e : hiAt l (i + 1) = i := by
    rw [hi_succ]
    cases hd : decide ((l.getD (hiAt l i) rpt0).rank < (l.getD i rpt0).rank)
    · simp only [decide_eq_false_iff_not] at hd
      rcases best_cases l i with ⟨_, h3⟩ | ⟨h3, h4, h5⟩
      · cases i with
        | zero => rfl
        | succ i => have := h3 (by omega); omega
      · rcases h2 with h2 | h2
        · omega
        · exact absurd h2 hd
    · rfl
  simp only [bestAt, e]
  have : decide (0 < (l.getD i rpt0).rank) = true := by simpa using h1
  rw [this]; rfl
theorem best_no {l : List Rpt} {i : Nat} (h : bestQ l i = false) : bestAt l (i + 1) = bestAt l i := by
  simp only [bestQ, Bool.and_eq_false_iff, Bool.or_eq_false_iff, decide_eq_false_iff_not] at h
  rcases best_cases l i with ⟨h3, h4⟩ | ⟨h3, h4, h5⟩
  · rw [h3]
    have h1 : ¬ 0 < (l.getD i rpt0).rank := by
      rcases h with h | ⟨h, _⟩
      · exact h
      · omega
    have : (l.getD (hiAt l (i + 1)) rpt0).rank ≤ 0 := by
      rw [hi_succ]
      cases hd : decide ((l.getD (hiAt l i) rpt0).rank < (l.getD i rpt0).rank)
      · simp only [cond_false]
        simp only [decide_eq_false_iff_not] at hd
        cases i with
        | zero => simp only [hiAt] ; omega
        | succ i => exact h4 (by omega)
      · simp only [cond_true]; omega
    have hd : decide (0 < (l.getD (hiAt l (i + 1)) rpt0).rank) = false := decide_eq_false (by omega)
    simp only [bestAt, hd, cond_false]
  · have hn : ¬ (l.getD (hiAt l i) rpt0).rank < (l.getD i rpt0).rank := by
      rcases h with h | ⟨_, h⟩
      · omega
      · exact h
    have e : hiAt l (i + 1) = hiAt l i := by
      rw [hi_succ]
      have : decide ((l.getD (hiAt l i) rpt0).rank < (l.getD i rpt0).rank) = false := by simpa using hn
      rw [this]; rfl
    have hd : decide (0 < (l.getD (hiAt l i) rpt0).rank) = true := by simpa using h4
    rw [h3]
    simp only [bestAt, e, hd, cond_true]
theorem box_find (l : List Rpt) (p : Bal → Bool) : (boxOf l).find? p = (l.find? fun r => decide (r.rank = 0) && p ⟨r.mem, r.cut⟩).map fun r => ⟨r.mem, r.cut⟩ := by
  induction l with
  | nil => rfl
  | cons y l ih =>
    by_cases hy : y.rank = 0
    · have e : boxOf (y :: l) = ⟨y.mem, y.cut⟩ :: boxOf l := by simp [boxOf, hy]
      rw [e, List.find?_cons, List.find?_cons, ih]
      cases hp : p ⟨y.mem, y.cut⟩ <;> simp [hy]
    · have e : boxOf (y :: l) = boxOf l := by simp [boxOf, hy]
      rw [e, List.find?_cons, ih]
      simp [hy]
end Go.Proofs.Ytmfgjjnmfahcjaa
