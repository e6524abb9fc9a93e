/- The laws of this seat, part E9: contracts of the functions, plain laws. No conditions. -/
import Derived.Test.YtmfgjjnmfahcjaaD9
set_option linter.unusedSimpArgs false
set_option linter.unusedVariables false
namespace Go.Proofs.Ytmfgjjnmfahcjaa
open Go.Lift
def splitR (v : View) (cut l other : List Int) : List Int × List Int :=
  bif !viewB v || !idsB cut 32 then ([], []) else (l.filter (inB other), l.filter (fun x => !inB other x))
def partA (other l : List Int) (i : Nat) : List (List DV) := ((l.take i).filter (inB other)).map intE
def partB (other l : List Int) (i : Nat) : List (List DV) := ((l.take i).filter (fun x => !inB other x)).map intE
theorem fitsI {n : Nat} (h : n ≤ 2000000) : fitsIn tt 3 n := by
  have e : (tinfo tt 3).bytes = 8 := by kernel_rfl
  refine ⟨?_, ?_⟩
  · rw [e]; omega
  · simp only [maxLen]; omega
theorem ole_row {e : TypeId} {sz : Nat} {es es' : List (List DV)} (h : es = es') : ole (.row e sz es) (.row e sz es') := by subst h; exact .refl
theorem partA_len (other l : List Int) (i : Nat) : (partA other l i).length ≤ i := by
  simp only [partA, List.length_map]
  exact Nat.le_trans (List.length_filter_le _ _) (by simp; omega)
theorem partB_len (other l : List Int) (i : Nat) : (partB other l i).length ≤ i := by
  simp only [partB, List.length_map]
  exact Nat.le_trans (List.length_filter_le _ _) (by simp; omega)
theorem part_in {other l : List Int} {i : Nat} (hlt : i < l.length) (h : inB other (l[i]'hlt) = true) : partA other l i ++ [intE (l[i]'hlt)] = partA other l (i + 1) ∧ partB other l i = partB other l (i + 1) := by
  simp only [partA, partB, List.take_succ_eq_append_getElem hlt, List.filter_append]
  simp [h]
theorem part_out {other l : List Int} {i : Nat} (hlt : i < l.length) (h : inB other (l[i]'hlt) = false) : partA other l i = partA other l (i + 1) ∧ partB other l i ++ [intE (l[i]'hlt)] = partB other l (i + 1) := by
  simp only [partA, partB, List.take_succ_eq_append_getElem hlt, List.filter_append]
  simp [h]
theorem r75 (v : View) (hv : v.mem.length ≤ maxLen) (cut l other : List Int) (hc : cut.length ≤ maxLen) (hl : l.length ≤ 1000000) (ho : other.length ≤ maxLen) :
    Ret Try.prog 75 [.agg (viewE v), .lst 1 (cut.map intE) false, .lst 1 (l.map intE) false, .lst 1 (other.map intE) false] (.tup [.lst 1 ((splitR v cut l other).1.map intE) false, .lst 1 ((splitR v cut l other).2.map intE) false]) := by
  refine ret_of_body (fn := Try.f75) (c := Try.f75.body.getD .skip) hm hT (by kernel_rfl) Try.func75 (by kernel_rfl) (by kernel_rfl) (by kernel_rfl) (by kernel_rfl) ?_
  repeat' ((conv => whnf); first | refine And.intro (fun h => h) ?_ | refine dcond_t (by assumption) ?_ | refine dcond_f (by assumption) ?_ | (refine dcond_intro ?_ ?_ <;> intro h) | exact .refl | refine And.intro (by kernel_rfl) ?_ | refine And.intro ⟨fun h => h, fun h => h⟩ ?_ | refine .inl ⟨_, _, DleAll_refl _, r57 _ hv, ?_⟩ | refine ⟨_, _, DleAll_refl _, r57 _ hv, ?_⟩ | refine ⟨_, _, DleAll_refl _, fun _ => r57 _ hv, ?_⟩ | refine .inl ⟨_, _, DleAll_refl _, r37 _ hc, ?_⟩ | refine ⟨_, _, DleAll_refl _, r37 _ hc, ?_⟩ | refine ⟨_, _, DleAll_refl _, fun _ => r37 _ hc, ?_⟩ | (refine And.intro ?_ ?_; focus (simp; done)) | fail)
  all_goals (conv => whnf)
  · simp only [splitR, h, cond_true]
    exact dle_tupA ⟨.nl, .nl, trivial⟩
  · simp only [splitR, h, cond_false]
    clear h
    refine ⟨Nat, fun i => ⟨[(3, .lst 1 (other.map intE) false), (8, .own 1), (9, .own 2), (20, .lst 1 (l.map intE) false), (21, i64 (l.map intE).length), (22, i64 i)], [.cells 44 (viewE v), .row 3 1 (partA other l i), .row 3 1 (partB other l i)]⟩, fun i => i ≤ l.length, fun i => l.length - i, [.slot 8 3 1, .slot 9 3 1], ⟨0, Nat.zero_le _, ?_⟩, ?_⟩
    · conv => whnf
      exact ⟨by repeat' ((conv => whnf); first | exact trivial | refine And.intro (by (conv => arg 1; whnf); first | (with_reducible exact .refl) | exact dle_int (wrap_succ (by omega)) | exact .refl) ?_), by repeat' ((conv => whnf); first | exact trivial | refine And.intro ?_ ?_ | exact .refl), rfl⟩
    · intro i hi
      repeat' ((conv => whnf); first | refine And.intro (fun h => h) ?_ | refine dcond_t (by assumption) ?_ | refine dcond_f (by assumption) ?_ | (refine dcond_intro ?_ ?_ <;> intro h) | exact .refl | refine And.intro (by kernel_rfl) ?_ | refine And.intro ⟨fun h => h, fun h => h⟩ ?_ | (refine And.intro ?_ ?_; focus (simp; done)) | fail)
      · have hlt : i < l.length := by simpa using h
        clear h
        repeat' ((conv => whnf); first | refine And.intro (fun h => h) ?_ | refine dcond_t (by assumption) ?_ | refine dcond_f (by assumption) ?_ | (refine dcond_intro ?_ ?_ <;> intro h) | exact .refl | refine And.intro (by kernel_rfl) ?_ | refine And.intro ⟨fun h => h, fun h => h⟩ ?_ | refine ⟨_, _, And.intro ⟨rfl, get_map hlt⟩ ?_⟩ | refine .inl ⟨_, _, DleAll_refl _, r58 _ ho _, ?_⟩ | refine ⟨_, _, DleAll_refl _, r58 _ ho _, ?_⟩ | refine ⟨_, _, DleAll_refl _, fun _ => r58 _ ho _, ?_⟩ | (refine And.intro ?_ ?_; focus (simp; done)) | fail)
        · have hA := partA_len other l i
          have hp := part_in hlt h
          conv => whnf
          refine And.intro (fitsI (by simp; omega)) ?_
          repeat' ((conv => whnf); first | refine And.intro (fun h => h) ?_ | refine dcond_t (by assumption) ?_ | refine dcond_f (by assumption) ?_ | (refine dcond_intro ?_ ?_ <;> intro h) | exact .refl | refine And.intro (by kernel_rfl) ?_ | refine And.intro ⟨fun h => h, fun h => h⟩ ?_ | (refine And.intro ?_ ?_; focus (simp; done)) | fail)
          all_goals (conv => whnf)
          refine ⟨i + 1, hlt, by simp only []; omega, ?_⟩
          exact ⟨⟨.refl, .refl, .refl, .refl, .refl, dle_int (wrap_succ (by omega)), trivial⟩, ⟨.refl, ole_row hp.1, ole_row hp.2, trivial⟩, rfl⟩
        · have hB := partB_len other l i
          have hp := part_out hlt h
          conv => whnf
          refine And.intro (fitsI (by simp; omega)) ?_
          repeat' ((conv => whnf); first | refine And.intro (fun h => h) ?_ | refine dcond_t (by assumption) ?_ | refine dcond_f (by assumption) ?_ | (refine dcond_intro ?_ ?_ <;> intro h) | exact .refl | refine And.intro (by kernel_rfl) ?_ | refine And.intro ⟨fun h => h, fun h => h⟩ ?_ | (refine And.intro ?_ ?_; focus (simp; done)) | fail)
          all_goals (conv => whnf)
          refine ⟨i + 1, hlt, by simp only []; omega, ?_⟩
          exact ⟨⟨.refl, .refl, .refl, .refl, .refl, dle_int (wrap_succ (by omega)), trivial⟩, ⟨.refl, ole_row hp.1, ole_row hp.2, trivial⟩, rfl⟩
      · have hge : ¬ i < l.length := by simpa using h
        have : i = l.length := by omega
        subst this
        conv => whnf
        refine dle_tupA ⟨dle_lst ?_, dle_lst ?_, trivial⟩
        · simp [partA]
        · simp [partB]
end Go.Proofs.Ytmfgjjnmfahcjaa
