/- The laws of this seat, part S9: contracts of the functions, plain laws. No conditions. -/
import Derived.Test.YtmfgjjnmfahcjaaR9
set_option linter.unusedSimpArgs false
set_option linter.unusedVariables false
namespace Go.Proofs.Ytmfgjjnmfahcjaa
open Go.Lift
def smallAt (l : List Rpt) (i : Nat) : Bool := !decide (60 < ((l.getD i rpt0).cut.length : Int))
def smallB (l : List Rpt) : Bool := allB (smallAt l) l.length && decide ((l.length : Int) ≤ 60)
theorem small_iff {l : List Rpt} (h : smallB l = true) : l.length ≤ 60 ∧ ∀ r ∈ l, r.cut.length ≤ 60 := by
  simp only [smallB, Bool.and_eq_true, decide_eq_true_eq, allB_true, smallAt, Bool.not_eq_true', decide_eq_false_iff_not] at h
  refine ⟨by omega, fun r hr => ?_⟩
  obtain ⟨i, hi, rfl⟩ := List.getElem_of_mem hr
  have := h.1 i hi
  simp only [List.getD_eq_getElem?_getD, List.getElem?_eq_getElem hi, Option.getD_some] at this
  omega
theorem r29 (l : List Rpt) (hl : l.length ≤ maxLen) : Ret Try.prog 29 [.lst 3 (l.map rptE) false] (.v (.bool (smallB l))) := by
  have hl' : l.length ≤ 9223372036854775807 := hl
  refine ret_of_body (fn := Try.f29) (c := Try.f29.body.getD .skip) hm hT (by kernel_rfl) Try.func29 (by kernel_rfl) (by kernel_rfl) (by kernel_rfl) (by kernel_rfl) ?_
  repeat' ((conv => whnf); first | refine And.intro (fun h => h) ?_ | refine dcond_t (by assumption) ?_ | refine dcond_f (by assumption) ?_ | (refine dcond_intro ?_ ?_ <;> intro h) | exact .refl | refine And.intro (by kernel_rfl) ?_ | refine And.intro ⟨fun h => h, fun h => h⟩ ?_ | (refine And.intro ?_ ?_; focus (simp; done)) | fail)
  refine ⟨Nat, fun i => ⟨[(0, .lst 3 (l.map rptE) false), (3, i64 i)], []⟩, fun i => i ≤ l.length ∧ ∀ j, j < i → smallAt l j = true, fun i => l.length - i, [], ⟨0, ⟨Nat.zero_le _, by omega⟩, ?_⟩, ?_⟩
  · exact ⟨by repeat' ((conv => whnf); first | exact trivial | refine And.intro (by (conv => arg 1; whnf); first | (with_reducible exact .refl) | exact dle_int (wrap_succ (by omega)) | exact .refl) ?_), by repeat' ((conv => whnf); first | exact trivial | refine And.intro ?_ ?_ | exact .refl), rfl⟩
  · intro i ⟨hi, hall⟩
    repeat' ((conv => whnf); first | refine And.intro (fun h => h) ?_ | refine dcond_t (by assumption) ?_ | refine dcond_f (by assumption) ?_ | (refine dcond_intro ?_ ?_ <;> intro h) | exact .refl | refine And.intro (by kernel_rfl) ?_ | refine And.intro ⟨fun h => h, fun h => h⟩ ?_ | (refine And.intro ?_ ?_; focus (simp; done)) | fail)
    · have hlt : i < l.length := by simpa using h
      clear h
      have hg : l.getD i rpt0 = l[i] := by simp [hlt]
      repeat' ((conv => whnf); first | refine And.intro (fun h => h) ?_ | refine dcond_t (by assumption) ?_ | refine dcond_f (by assumption) ?_ | (refine dcond_intro ?_ ?_ <;> intro h) | exact .refl | refine And.intro (by kernel_rfl) ?_ | refine And.intro ⟨fun h => h, fun h => h⟩ ?_ | refine ⟨_, _, And.intro ⟨rfl, get_map hlt⟩ ?_⟩ | (refine And.intro ?_ ?_; focus (simp; done)) | fail)
      all_goals (conv => whnf)
      · refine dle_bool ?_
        rw [List.length_map] at h
        rw [smallB, allB_false hlt (by simp only [smallAt, hg, h]; rfl), Bool.false_and]
      · rw [List.length_map] at h
        refine ⟨i + 1, ⟨hlt, fun j hj => ?_⟩, by simp only []; omega, ?_⟩
        · rcases Nat.lt_succ_iff_lt_or_eq.1 hj with hj | rfl
          · exact hall j hj
          · simp only [smallAt, hg, h]; rfl
        · exact ⟨by repeat' ((conv => whnf); first | exact trivial | refine And.intro (by (conv => arg 1; whnf); first | (with_reducible exact .refl) | exact dle_int (wrap_succ (by omega)) | exact .refl) ?_), by repeat' ((conv => whnf); first | exact trivial | refine And.intro ?_ ?_ | exact .refl), rfl⟩
    · have hge : ¬ i < l.length := by simpa using h
      conv => whnf
      refine dle_bool ?_
      rw [smallB, allB_true.2 (fun j hj => hall j (by omega)), Bool.true_and, List.length_map]
def vrB (v : View) (r : Rpt) : Bool := inB v.mem r.mem &&
    (decide (r.rank = -1) && decide ((r.cut.length : Int) = 0) || (decide (r.rank = 0) || usableB r.rank) && decide ((nextR v r.cut).2 = 0))
theorem vr_ref (v : View) (r : Rpt) : (bif !inB v.mem r.mem || (!decide (r.rank = -1) && !decide (r.rank = 0)) && decide (ownerRef r.rank = 0) then false else bif decide (r.rank < 0) then decide ((r.cut.length : Int) = 0) else decide ((nextR v r.cut).2 = 0)) = vrB v r := by
  have ho := @owner_low r.rank
  simp only [vrB, ownerRef_eq, usableB]
  generalize decide ((nextR v r.cut).2 = 0) = b1
  generalize decide ((r.cut.length : Int) = 0) = b2
  generalize inB v.mem r.mem = b3
  by_cases h5 : ownerOf r.rank = 0
  · by_cases h3 : r.rank = -1 <;> by_cases h4 : r.rank = 0 <;> by_cases h7 : r.rank < 0 <;> cases b1 <;> cases b2 <;> cases b3 <;> simp [*]
    all_goals try omega
    all_goals (rw [← h3]; exact h5)
  · have ho := ho h5
    have h3 : ¬ r.rank = -1 := by omega
    have h4 : ¬ r.rank = 0 := by omega
    have h7 : ¬ r.rank < 0 := by omega
    cases b1 <;> cases b2 <;> cases b3 <;> simp [*]
theorem r52 (v : View) (hv : v.mem.length ≤ 500000) (r : Rpt) (hc : r.cut.length ≤ 500000) : Ret Try.prog 52 [.agg (viewE v), .agg (rptE r)] (.v (.bool (vrB v r))) := by
  have h1 : v.mem.length ≤ maxLen := Nat.le_trans hv (by decide)
  refine ret_of_body (fn := Try.f52) (c := Try.f52.body.getD .skip) hm hT (by kernel_rfl) Try.func52 (by kernel_rfl) (by kernel_rfl) (by kernel_rfl) (by kernel_rfl) ?_
  repeat' ((conv => whnf); first | refine And.intro (fun h => h) ?_ | refine dcond_t (by assumption) ?_ | refine dcond_f (by assumption) ?_ | (refine dcond_intro ?_ ?_ <;> intro h) | exact .refl | refine And.intro (by kernel_rfl) ?_ | refine And.intro ⟨fun h => h, fun h => h⟩ ?_ | refine .inl ⟨_, _, DleAll_refl _, c_ref3_Contains _ h1 _, ?_⟩ | refine ⟨_, _, DleAll_refl _, fun _ => c_ref3_Contains _ h1 _, ?_⟩ | refine ⟨_, _, DleAll_refl _, c_ref3_Contains _ h1 _, ?_⟩ | refine .inl ⟨_, _, DleAll_refl _, r13 _, ?_⟩ | refine ⟨_, _, DleAll_refl _, fun _ => r13 _, ?_⟩ | refine ⟨_, _, DleAll_refl _, r13 _, ?_⟩ | refine .inl ⟨_, _, DleAll_refl _, c_ref3_Applicable _ hv _ hc, ?_⟩ | refine ⟨_, _, DleAll_refl _, fun _ => c_ref3_Applicable _ hv _ hc, ?_⟩ | refine ⟨_, _, DleAll_refl _, c_ref3_Applicable _ hv _ hc, ?_⟩ | (refine And.intro ?_ ?_; focus (simp; done)) | fail)
  all_goals (conv => whnf)
  all_goals refine dle_bool ?_
  all_goals (try simp only [List.length_map])
  all_goals rw [← vr_ref]
  all_goals simp only [*, cond_true, cond_false]
def ofB (l : List Rpt) (x : Int) : Int := findB (fun i => decide ((l.getD i rpt0).mem = x)) l.length
theorem r53 (l : List Rpt) (hl : l.length ≤ maxLen) (x : Int) : Ret Try.prog 53 [.lst 3 (l.map rptE) false, .v (.int .i64 x)] (.v (.int .i64 (ofB l x))) := by
  have hl' : l.length ≤ 9223372036854775807 := hl
  refine ret_of_body (fn := Try.f53) (c := Try.f53.body.getD .skip) hm hT (by kernel_rfl) Try.func53 (by kernel_rfl) (by kernel_rfl) (by kernel_rfl) (by kernel_rfl) ?_
  repeat' ((conv => whnf); first | refine And.intro (fun h => h) ?_ | refine dcond_t (by assumption) ?_ | refine dcond_f (by assumption) ?_ | (refine dcond_intro ?_ ?_ <;> intro h) | exact .refl | refine And.intro (by kernel_rfl) ?_ | refine And.intro ⟨fun h => h, fun h => h⟩ ?_ | (refine And.intro ?_ ?_; focus (simp; done)) | fail)
  refine ⟨Nat, fun i => ⟨[(0, .lst 3 (l.map rptE) false), (1, .v (.int .i64 x)), (5, i64 i)], []⟩, fun i => i ≤ l.length ∧ ∀ j, j < i → decide ((l.getD j rpt0).mem = x) = false, fun i => l.length - i, [], ⟨0, ⟨Nat.zero_le _, by omega⟩, ?_⟩, ?_⟩
  · exact ⟨by repeat' ((conv => whnf); first | exact trivial | refine And.intro (by (conv => arg 1; whnf); first | (with_reducible exact .refl) | exact dle_int (wrap_succ (by omega)) | exact .refl) ?_), by repeat' ((conv => whnf); first | exact trivial | refine And.intro ?_ ?_ | exact .refl), rfl⟩
  · intro i ⟨hi, hall⟩
    repeat' ((conv => whnf); first | refine And.intro (fun h => h) ?_ | refine dcond_t (by assumption) ?_ | refine dcond_f (by assumption) ?_ | (refine dcond_intro ?_ ?_ <;> intro h) | exact .refl | refine And.intro (by kernel_rfl) ?_ | refine And.intro ⟨fun h => h, fun h => h⟩ ?_ | (refine And.intro ?_ ?_; focus (simp; done)) | fail)
    · have hlt : i < l.length := by simpa using h
      repeat' ((conv => whnf); first | refine And.intro (fun h => h) ?_ | refine dcond_t (by assumption) ?_ | refine dcond_f (by assumption) ?_ | (refine dcond_intro ?_ ?_ <;> intro h) | exact .refl | refine And.intro (by kernel_rfl) ?_ | refine And.intro ⟨fun h => h, fun h => h⟩ ?_ | refine ⟨_, _, And.intro ⟨rfl, get_map hlt⟩ ?_⟩ | (refine And.intro ?_ ?_; focus (simp; done)) | fail)
      · have h2 := h
        refine dle_int (findB_at hlt ?_ hall).symm
        simpa [hlt] using h2
      · have h2 := h
        conv => whnf
        refine ⟨i + 1, ⟨hlt, fun j hj => ?_⟩, by simp only []; omega, ?_⟩
        · rcases Nat.lt_succ_iff_lt_or_eq.1 hj with hj | rfl
          · exact hall j hj
          · simpa [hlt] using h2
        · exact ⟨by repeat' ((conv => whnf); first | exact trivial | refine And.intro (by (conv => arg 1; whnf); first | (with_reducible exact .refl) | exact dle_int (wrap_succ (by omega)) | exact .refl) ?_), by repeat' ((conv => whnf); first | exact trivial | refine And.intro ?_ ?_ | exact .refl), rfl⟩
    · have hge : ¬ i < l.length := by simpa using h
      conv => whnf
      refine dle_int (findB_none (fun j hj => hall j (by omega))).symm
theorem of_neg {l : List Rpt} {x : Int} (h : decide (0 ≤ ofB l x) = false) : ∀ r ∈ l, r.mem ≠ x := by
  intro r hr e
  obtain ⟨i, hi, rfl⟩ := List.getElem_of_mem hr
  have hp : ∃ n, findB (fun i => decide ((l.getD i rpt0).mem = x)) l.length = ((n : Nat) : Int) := by
    rcases hf : (List.range l.length).find? (fun i => decide ((l.getD i rpt0).mem = x)) with _ | n
    · have := List.find?_eq_none.1 hf i (List.mem_range.2 hi)
      simp [hi, e] at this
    · exact ⟨n, by simp only [findB, hf]⟩
  obtain ⟨n, hn⟩ := hp
  simp only [ofB, hn, decide_eq_false_iff_not] at h
  omega
theorem of_pos {l : List Rpt} {x : Int} (h : decide (0 ≤ ofB l x) = true) : ∃ r ∈ l, r.mem = x := by
  refine Classical.byContradiction fun hn => ?_
  have hall : ∀ j, j < l.length → decide ((l.getD j rpt0).mem = x) = false := fun j hj => by
    simp only [List.getD_eq_getElem?_getD, List.getElem?_eq_getElem hj, Option.getD_some, decide_eq_false_iff_not]
    exact fun e => hn ⟨_, List.getElem_mem hj, e⟩
  rw [ofB, findB_none hall] at h
  cases h
theorem r55 (n : Int) : Ret Try.prog 55 [.v (.int .i64 n)] (.v (.int .i64 (majB n))) := by
  have e : (!(decide (1 ≤ n) && decide (n ≤ 16))) = (decide (n < 1) || decide (16 < n)) := by
    by_cases h1 : 1 ≤ n <;> by_cases h2 : n ≤ 16 <;> simp [h1, h2] <;> omega
  refine ret_of_body (fn := Try.f55) (c := Try.f55.body.getD .skip) hm hT (by kernel_rfl) Try.func55 (by kernel_rfl) (by kernel_rfl) (by kernel_rfl) (by kernel_rfl) ?_
  repeat' ((conv => whnf); first | refine And.intro (fun h => h) ?_ | refine dcond_t (by assumption) ?_ | refine dcond_f (by assumption) ?_ | (refine dcond_intro ?_ ?_ <;> intro h) | exact .refl | refine And.intro (by kernel_rfl) ?_ | refine And.intro ⟨fun h => h, fun h => h⟩ ?_ | (refine And.intro ?_ ?_; focus (simp; done)) | fail)
  all_goals (conv => whnf)
  all_goals refine dle_int ?_
  all_goals simp only [majB, e, h, cond_true, cond_false]
theorem r56 (n : Int) : Ret Try.prog 56 [.v (.int .i64 n)] (.v (.int .i64 (fastB n))) := by
  have e : (!(decide (1 ≤ n) && decide (n ≤ 16))) = (decide (n < 1) || decide (16 < n)) := by
    by_cases h1 : 1 ≤ n <;> by_cases h2 : n ≤ 16 <;> simp [h1, h2] <;> omega
  refine ret_of_body (fn := Try.f56) (c := Try.f56.body.getD .skip) hm hT (by kernel_rfl) Try.func56 (by kernel_rfl) (by kernel_rfl) (by kernel_rfl) (by kernel_rfl) ?_
  repeat' ((conv => whnf); first | refine And.intro (fun h => h) ?_ | refine dcond_t (by assumption) ?_ | refine dcond_f (by assumption) ?_ | (refine dcond_intro ?_ ?_ <;> intro h) | exact .refl | refine And.intro (by kernel_rfl) ?_ | refine And.intro ⟨fun h => h, fun h => h⟩ ?_ | (refine And.intro ?_ ?_; focus (simp; done)) | fail)
  all_goals (conv => whnf)
  all_goals refine dle_int ?_
  all_goals simp only [fastB, e, h, cond_true, cond_false]
end Go.Proofs.Ytmfgjjnmfahcjaa
