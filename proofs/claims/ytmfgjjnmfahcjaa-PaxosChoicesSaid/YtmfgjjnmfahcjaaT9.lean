/- The laws of this seat, part T9: contracts of the functions, plain laws. No conditions. -/
import Derived.Test.YtmfgjjnmfahcjaaS9
set_option linter.unusedSimpArgs false
set_option linter.unusedVariables false
namespace Go.Proofs.Ytmfgjjnmfahcjaa
open Go.Lift
/-- the reference's check of report 'i' -/
def okRef (v : View) (l : List Rpt) (i : Nat) : Bool := !(!vrB v (l.getD i rpt0) || decide (0 < (i : Int)) && decide ((l.getD i rpt0).mem ≤ (l.getD (i - 1) rpt0).mem))
theorem in_pos {v : View} {x : Int} (hv : viewB v = true) (h : inB v.mem x = true) : 1 ≤ x := by
  have hid : idsB v.mem 16 = true := by
    simp only [viewB, Bool.and_eq_true] at hv
    exact hv.2
  rw [ids_eq] at hid
  simp only [Bool.and_eq_true] at hid
  have hr := rise_iff.1 hid.2
  rcases hf : (List.range v.mem.length).find? (fun i => decide (v.mem[i]? = some x)) with _ | n
  · simp only [inB, placeB, findB, hf] at h
    cases h
  · have hm := List.mem_of_find?_eq_some hf
    have hp := List.find?_some hf
    simp only [decide_eq_true_eq] at hp
    obtain ⟨hn, rfl⟩ := List.getElem?_eq_some_iff.1 hp
    exact (hr n hn).1
theorem ok_ref {v : View} (hv : viewB v = true) (l : List Rpt) {i : Nat} (hi : i < l.length) : okRef v l i = okRep v l i := by
  simp only [okRef, okRep, vrB]
  cases hin : inB v.mem (l.getD i rpt0).mem
  · simp
  · have hp := in_pos hv hin
    have e : (decide (0 < (i : Int)) && decide ((l.getD i rpt0).mem ≤ (l.getD (i - 1) rpt0).mem)) = decide ((l.getD i rpt0).mem ≤ prevM l i) := by
      cases i with
      | zero => simp [prevM]; simp at hp; omega
      | succ j =>
        have hj : j < l.length := by omega
        simp [prevM, hj, hi]
    rw [e]
    cases decide ((l.getD i rpt0).mem ≤ prevM l i) <;> simp
set_option maxRecDepth 100000 in
theorem r34 (v : View) (hv : v.mem.length ≤ 500000) (l : List Rpt) (hl : l.length ≤ maxLen) (hc : ∀ r ∈ l, r.cut.length ≤ 500000) : Ret Try.prog 34 [.agg (viewE v), .lst 3 (l.map rptE) false] (.v (.bool (repsB v l))) := by
  have hl' : l.length ≤ 9223372036854775807 := hl
  have h1 : v.mem.length ≤ maxLen := Nat.le_trans hv (by decide)
  refine ret_of_body (fn := Try.f34) (c := Try.f34.body.getD .skip) hm hT (by kernel_rfl) Try.func34 (by kernel_rfl) (by kernel_rfl) (by kernel_rfl) (by kernel_rfl) ?_
  repeat' ((conv => whnf); first | refine And.intro (fun h => h) ?_ | refine dcond_t (by assumption) ?_ | refine dcond_f (by assumption) ?_ | (refine dcond_intro ?_ ?_ <;> intro h) | exact .refl | refine And.intro (by kernel_rfl) ?_ | refine And.intro ⟨fun h => h, fun h => h⟩ ?_ | refine .inl ⟨_, _, DleAll_refl _, c_ref3_Valid _ h1, ?_⟩ | refine ⟨_, _, DleAll_refl _, fun _ => c_ref3_Valid _ h1, ?_⟩ | refine ⟨_, _, DleAll_refl _, c_ref3_Valid _ h1, ?_⟩ | (refine And.intro ?_ ?_; focus (simp; done)) | fail)
  · refine dle_bool ?_
    have h : viewB v = false := by simpa using h
    simp [repsB, h]
  · have hvw : viewB v = true := by simpa using h
    clear h
    conv => whnf
    refine ⟨Nat, fun i => ⟨[(1, .lst 3 (l.map rptE) false), (2, .lp 0 0), (5, i64 i)], [.cells 44 (viewE v)]⟩, fun i => i ≤ l.length ∧ ∀ j, j < i → okRep v l j = true, fun i => l.length - i, [], ⟨0, ⟨Nat.zero_le _, by omega⟩, ?_⟩, ?_⟩
    · exact ⟨by repeat' ((conv => whnf); first | exact trivial | refine And.intro (by (conv => arg 1; whnf); first | (with_reducible exact .refl) | exact dle_int (wrap_succ (by omega)) | exact .refl) ?_), by repeat' ((conv => whnf); first | exact trivial | refine And.intro ?_ ?_ | exact .refl), rfl⟩
    · intro i ⟨hi, hall⟩
      repeat' ((conv => whnf); first | refine And.intro (fun h => h) ?_ | refine dcond_t (by assumption) ?_ | refine dcond_f (by assumption) ?_ | (refine dcond_intro ?_ ?_ <;> intro h) | exact .refl | refine And.intro (by kernel_rfl) ?_ | refine And.intro ⟨fun h => h, fun h => h⟩ ?_ | (refine And.intro ?_ ?_; focus (simp; done)) | fail)
      · have hlt : i < l.length := by simpa using h
        clear h
        have hg : l.getD i rpt0 = l[i] := by simp [hlt]
        have e52 := r52 v hv (l[i]) (hc _ (List.getElem_mem hlt))
        have hok := ok_ref hvw l hlt
        simp only [okRef, hg] at hok
        generalize vrB v (l[i]) = vb at e52 hok
        have hp : 0 < i → (IntKind.i64.wrap ((i : Int) - 1)) = ((i - 1 : Nat) : Int) ∧ (l.map rptE)[i - 1]? = some (rptE (l.getD (i - 1) rpt0)) := by
          intro h0
          refine ⟨by rw [wrap_i64 (by omega) (by omega)]; omega, ?_⟩
          have : i - 1 < l.length := by omega
          simp [this]
        repeat' ((conv => whnf); first | refine And.intro (fun h => h) ?_ | refine dcond_t (by assumption) ?_ | refine dcond_f (by assumption) ?_ | (refine dcond_intro ?_ ?_ <;> intro h) | exact .refl | refine And.intro (by kernel_rfl) ?_ | refine And.intro ⟨fun h => h, fun h => h⟩ ?_ | refine ⟨_, _, And.intro ⟨rfl, get_map hlt⟩ ?_⟩ | refine .inl ⟨_, _, DleAll_refl _, e52, ?_⟩ | refine ⟨_, _, DleAll_refl _, fun _ => e52, ?_⟩ | refine ⟨_, _, DleAll_refl _, e52, ?_⟩ | refine ⟨i, rptE (l[i]'hlt), And.intro ⟨⟨fun h => h, fun h => h⟩, fun hg => ⟨rfl, get_map hlt⟩⟩ ?_⟩ | refine ⟨i - 1, rptE (l.getD (i - 1) rpt0), And.intro ⟨⟨fun h => h, fun h => h⟩, fun hg => hp (by have := ((Bool.and_eq_true ..).mp hg).2 <;> simpa using this)⟩ ?_⟩ | (refine And.intro ?_ ?_; focus (simp; done)) | fail)
        all_goals (conv => whnf)
        · refine dle_bool ?_
          have : okRep v l i = false := by rw [← hok, h]; rfl
          rw [repsB, allB_false hlt this, Bool.and_false]
        · refine ⟨i + 1, ⟨hlt, fun j hj => ?_⟩, by simp only []; omega, ?_⟩
          · rcases Nat.lt_succ_iff_lt_or_eq.1 hj with hj | rfl
            · exact hall j hj
            · rw [← hok, h]; rfl
          · exact ⟨by repeat' ((conv => whnf); first | exact trivial | refine And.intro (by (conv => arg 1; whnf); first | (with_reducible exact .refl) | exact dle_int (wrap_succ (by omega)) | exact .refl) ?_), by repeat' ((conv => whnf); first | exact trivial | refine And.intro ?_ ?_ | exact .refl), rfl⟩
      · have hge : ¬ i < l.length := by simpa using h
        conv => whnf
        refine dle_bool ?_
        rw [repsB, hvw, allB_true.2 (fun j hj => hall j (by omega))]
        rfl
end Go.Proofs.Ytmfgjjnmfahcjaa
