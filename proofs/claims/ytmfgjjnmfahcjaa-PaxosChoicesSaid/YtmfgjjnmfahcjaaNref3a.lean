/- The laws of this seat, part Nref3a: contracts of the functions, plain laws. No conditions. -/
import Derived.Test.YtmfgjjnmfahcjaaM9
set_option linter.unusedSimpArgs false
set_option linter.unusedVariables false
namespace Go.Proofs.Ytmfgjjnmfahcjaa
open Go.Lift
/-! reference 3, first part: identifiers, lists, views (expects: intE, i64, idsB, sameI, viewE, viewB, placeB, inB) -/
theorem c_ref3_IsID (n : Int) : Ret Try.prog 36 [.v (.int .i64 n)] (.v (.bool (decide (1 ≤ n) && decide (n ≤ 1000)))) := by
  refine ret_of_body (fn := Try.f36) (c := Try.f36.body.getD .skip) hm hT (by kernel_rfl) Try.func36 (by kernel_rfl) (by kernel_rfl) (by kernel_rfl) (by kernel_rfl) ?_
  repeat' ((conv => whnf); first | refine And.intro (fun h => h) ?_ | refine dcond_t (by assumption) ?_ | refine dcond_f (by assumption) ?_ | (refine dcond_intro ?_ ?_ <;> intro h) | exact .refl | refine And.intro (by kernel_rfl) ?_ | refine And.intro ⟨fun h => h, fun h => h⟩ ?_ | (refine And.intro ?_ ?_; focus (simp; done)) | fail)
def riseAt (l : List Int) (i : Nat) : Bool := !(!(decide (1 ≤ l.getD i 0) && decide (l.getD i 0 ≤ 1000)) || (decide (0 < (i : Int)) && decide (l.getD i 0 ≤ l.getD (i - 1) 0)))
def riseB (l : List Int) : Bool := allB (riseAt l) l.length
theorem c_ref3_Rising (l : List Int) (hl : l.length ≤ maxLen) : Ret Try.prog 60 [.lst 1 (l.map intE) false] (.v (.bool (riseB l))) := by
  have hl' : l.length ≤ 9223372036854775807 := hl
  refine ret_of_body (fn := Try.f60) (c := Try.f60.body.getD .skip) hm hT (by kernel_rfl) Try.func60 (by kernel_rfl) (by kernel_rfl) (by kernel_rfl) (by kernel_rfl) ?_
  repeat' ((conv => whnf); first | refine And.intro (fun h => h) ?_ | refine dcond_t (by assumption) ?_ | refine dcond_f (by assumption) ?_ | (refine dcond_intro ?_ ?_ <;> intro h) | exact .refl | refine And.intro (by kernel_rfl) ?_ | refine And.intro ⟨fun h => h, fun h => h⟩ ?_ | (refine And.intro ?_ ?_; focus (simp; done)) | fail)
  refine ⟨Nat, fun i => ⟨[(0, .lst 1 (l.map intE) false), (3, i64 i)], []⟩, fun i => i ≤ l.length ∧ ∀ j, j < i → riseAt l j = true, fun i => l.length - i, [], ⟨0, ⟨Nat.zero_le _, by omega⟩, ?_⟩, ?_⟩
  · exact ⟨by repeat' ((conv => whnf); first | exact trivial | refine And.intro (by (conv => arg 1; whnf); first | (with_reducible exact .refl) | exact dle_int (wrap_succ (by omega)) | exact .refl) ?_), by repeat' ((conv => whnf); first | exact trivial | refine And.intro ?_ ?_ | exact .refl), rfl⟩
  · intro i ⟨hi, hall⟩
    repeat' ((conv => whnf); first | refine And.intro (fun h => h) ?_ | refine dcond_t (by assumption) ?_ | refine dcond_f (by assumption) ?_ | (refine dcond_intro ?_ ?_ <;> intro h) | exact .refl | refine And.intro (by kernel_rfl) ?_ | refine And.intro ⟨fun h => h, fun h => h⟩ ?_ | (refine And.intro ?_ ?_; focus (simp; done)) | fail)
    · have hlt : i < l.length := by simpa using h
      clear h
      have hg : l.getD i 0 = l[i] := by simp [hlt]
      repeat' ((conv => whnf); first | refine And.intro (fun h => h) ?_ | refine dcond_t (by assumption) ?_ | refine dcond_f (by assumption) ?_ | (refine dcond_intro ?_ ?_ <;> intro h) | exact .refl | refine And.intro (by kernel_rfl) ?_ | refine And.intro ⟨fun h => h, fun h => h⟩ ?_ | refine ⟨_, _, And.intro ⟨rfl, get_map hlt⟩ ?_⟩ | refine .inl ⟨_, _, DleAll_refl _, c_ref3_IsID _, ?_⟩ | refine ⟨_, _, DleAll_refl _, fun _ => c_ref3_IsID _, ?_⟩ | refine ⟨_, _, DleAll_refl _, c_ref3_IsID _, ?_⟩ | refine ⟨i, intE (l[i]'hlt), And.intro ⟨⟨fun h => h, fun h => h⟩, fun hg => ⟨rfl, get_map hlt⟩⟩ ?_⟩ | (refine And.intro ?_ ?_; focus (simp; done)) | fail)
      have hp : ∀ (hg : (!(decide (1 ≤ l[i]) && decide (l[i] ≤ 1000))) = false ∧ 0 < i), (IntKind.i64.wrap ((i : Int) - 1)) = ((i - 1 : Nat) : Int) ∧ (l.map intE)[i - 1]? = some (intE (l.getD (i - 1) 0)) := by
        rintro ⟨_, h0⟩
        refine ⟨by rw [wrap_i64 (by omega) (by omega)]; omega, ?_⟩
        have : i - 1 < l.length := by omega
        simp [this]
      refine ⟨i - 1, intE (l.getD (i - 1) 0), And.intro ⟨⟨fun h => h, fun h => h⟩, fun hg => hp ?_⟩ ?_⟩
      · simp only [Bool.and_eq_true, Bool.not_eq_true', decide_eq_true_eq] at hg
        refine ⟨?_, by omega⟩
        have := hg.1
        simpa using this
      repeat' ((conv => whnf); first | refine And.intro (fun h => h) ?_ | refine dcond_t (by assumption) ?_ | refine dcond_f (by assumption) ?_ | (refine dcond_intro ?_ ?_ <;> intro h) | exact .refl | refine And.intro (by kernel_rfl) ?_ | refine And.intro ⟨fun h => h, fun h => h⟩ ?_ | (refine And.intro ?_ ?_; focus (simp; done)) | fail)
      all_goals (conv => whnf)
      · refine dle_bool ?_
        have : riseAt l i = false := by simp only [riseAt, hg, h]; rfl
        rw [riseB, allB_false hlt this]
      · refine ⟨i + 1, ⟨hlt, fun j hj => ?_⟩, by simp only []; omega, ?_⟩
        · rcases Nat.lt_succ_iff_lt_or_eq.1 hj with hj | rfl
          · exact hall j hj
          · simp only [riseAt, hg, h]; rfl
        · exact ⟨by repeat' ((conv => whnf); first | exact trivial | refine And.intro (by (conv => arg 1; whnf); first | (with_reducible exact .refl) | exact dle_int (wrap_succ (by omega)) | exact .refl) ?_), by repeat' ((conv => whnf); first | exact trivial | refine And.intro ?_ ?_ | exact .refl), rfl⟩
    · have hge : ¬ i < l.length := by simpa using h
      conv => whnf
      refine dle_bool ?_
      rw [riseB, allB_true.2 (fun j hj => hall j (by omega))]
def cutRB (l : List Int) : Bool := (decide (1 ≤ (l.length : Int)) && decide ((l.length : Int) ≤ 32)) && riseB l
theorem c_ref3_ValidCut (l : List Int) (hl : l.length ≤ maxLen) : Ret Try.prog 40 [.lst 1 (l.map intE) false] (.v (.bool (cutRB l))) := by
  refine ret_of_body (fn := Try.f40) (c := Try.f40.body.getD .skip) hm hT (by kernel_rfl) Try.func40 (by kernel_rfl) (by kernel_rfl) (by kernel_rfl) (by kernel_rfl) ?_
  repeat' ((conv => whnf); first | refine And.intro (fun h => h) ?_ | refine dcond_t (by assumption) ?_ | refine dcond_f (by assumption) ?_ | (refine dcond_intro ?_ ?_ <;> intro h) | exact .refl | refine And.intro (by kernel_rfl) ?_ | refine And.intro ⟨fun h => h, fun h => h⟩ ?_ | refine .inl ⟨_, _, DleAll_refl _, c_ref3_Rising _ hl, ?_⟩ | refine ⟨_, _, DleAll_refl _, fun _ => c_ref3_Rising _ hl, ?_⟩ | refine ⟨_, _, DleAll_refl _, c_ref3_Rising _ hl, ?_⟩ | (refine And.intro ?_ ?_; focus (simp; done)) | fail)
  all_goals (conv => whnf)
  refine dle_bool ?_
  simp only [cutRB, List.length_map]
theorem c_ref1_SameInts (a b : List Int) (ha : a.length ≤ maxLen) : Ret Try.prog 43 [.lst 1 (a.map intE) false, .lst 1 (b.map intE) false] (.v (.bool (sameI a b))) := by
  have hl' : a.length ≤ 9223372036854775807 := ha
  refine ret_of_body (fn := Try.f43) (c := Try.f43.body.getD .skip) hm hT (by kernel_rfl) Try.func43 (by kernel_rfl) (by kernel_rfl) (by kernel_rfl) (by kernel_rfl) ?_
  repeat' ((conv => whnf); first | refine And.intro (fun h => h) ?_ | refine dcond_t (by assumption) ?_ | refine dcond_f (by assumption) ?_ | (refine dcond_intro ?_ ?_ <;> intro h) | exact .refl | refine And.intro (by kernel_rfl) ?_ | refine And.intro ⟨fun h => h, fun h => h⟩ ?_ | (refine And.intro ?_ ?_; focus (simp; done)) | fail)
  · refine dle_bool ?_
    simp only [List.length_map] at h
    have h : decide ((a.length : Int) = (b.length : Int)) = false := by simpa using h
    simp only [sameI, h, Bool.false_and]
  · have h0 : a.length = b.length := by
      simp at h
      omega
    clear h
    conv => whnf
    refine ⟨Nat, fun i => ⟨[(0, .lst 1 (a.map intE) false), (1, .lst 1 (b.map intE) false), (5, i64 i)], []⟩, fun i => i ≤ a.length ∧ ∀ j, j < i → decide (a.getD j 0 = b.getD j 0) = true, fun i => a.length - i, [], ⟨0, ⟨Nat.zero_le _, by omega⟩, ?_⟩, ?_⟩
    · exact ⟨by repeat' ((conv => whnf); first | exact trivial | refine And.intro (by (conv => arg 1; whnf); first | (with_reducible exact .refl) | exact dle_int (wrap_succ (by omega)) | exact .refl) ?_), by repeat' ((conv => whnf); first | exact trivial | refine And.intro ?_ ?_ | exact .refl), rfl⟩
    · intro i ⟨hi, hall⟩
      repeat' ((conv => whnf); first | refine And.intro (fun h => h) ?_ | refine dcond_t (by assumption) ?_ | refine dcond_f (by assumption) ?_ | (refine dcond_intro ?_ ?_ <;> intro h) | exact .refl | refine And.intro (by kernel_rfl) ?_ | refine And.intro ⟨fun h => h, fun h => h⟩ ?_ | (refine And.intro ?_ ?_; focus (simp; done)) | fail)
      · have hlt : i < a.length := by simpa using h
        have hlt2 : i < b.length := by omega
        clear h
        have hg : a.getD i 0 = a[i] := by simp [hlt]
        have hg2 : b.getD i 0 = b[i] := by simp [hlt2]
        repeat' ((conv => whnf); first | refine And.intro (fun h => h) ?_ | refine dcond_t (by assumption) ?_ | refine dcond_f (by assumption) ?_ | (refine dcond_intro ?_ ?_ <;> intro h) | exact .refl | refine And.intro (by kernel_rfl) ?_ | refine And.intro ⟨fun h => h, fun h => h⟩ ?_ | refine ⟨_, _, And.intro ⟨rfl, get_map hlt⟩ ?_⟩ | refine ⟨_, _, And.intro ⟨rfl, get_map hlt2⟩ ?_⟩ | (refine And.intro ?_ ?_; focus (simp; done)) | fail)
        · refine dle_bool ?_
          rw [sameI, allB_false hlt (i := i), Bool.and_false]
          rw [hg, hg2]
          simpa using h
        · conv => whnf
          refine ⟨i + 1, ⟨hlt, fun j hj => ?_⟩, by simp only []; omega, ?_⟩
          · rcases Nat.lt_succ_iff_lt_or_eq.1 hj with hj | rfl
            · exact hall j hj
            · rw [hg, hg2]
              simpa using h
          · exact ⟨by repeat' ((conv => whnf); first | exact trivial | refine And.intro (by (conv => arg 1; whnf); first | (with_reducible exact .refl) | exact dle_int (wrap_succ (by omega)) | exact .refl) ?_), by repeat' ((conv => whnf); first | exact trivial | refine And.intro ?_ ?_ | exact .refl), rfl⟩
      · have hge : ¬ i < a.length := by simpa using h
        conv => whnf
        refine dle_bool ?_
        rw [sameI, allB_true.2 (fun j hj => hall j (by omega)), h0]
        simp
/-- the checks of lists: the two say the same -/
theorem rise_iff {l : List Int} : riseB l = true ↔ ∀ i, (h : i < l.length) → 1 ≤ l[i] ∧ l[i] ≤ 1000 ∧ (0 < i → l.getD (i - 1) 0 < l[i]) := by
  rw [riseB, allB_true]
  refine forall_congr' fun i => ?_
  constructor
  · intro h hi
    have h := h hi
    have hg : l.getD i 0 = l[i] := by simp [hi]
    simp only [riseAt, hg, Bool.not_eq_true', Bool.or_eq_false_iff, Bool.not_eq_false', Bool.and_eq_true, decide_eq_true_eq, Bool.and_eq_false_iff, decide_eq_false_iff_not] at h
    omega
  · intro h hi
    have h := h hi
    have hg : l.getD i 0 = l[i] := by simp [hi]
    simp only [riseAt, hg, Bool.not_eq_true', Bool.or_eq_false_iff, Bool.not_eq_false', Bool.and_eq_true, decide_eq_true_eq, Bool.and_eq_false_iff, decide_eq_false_iff_not]
    omega
theorem oks_iff {l : List Int} : allB (okAt l) l.length = true ↔ ∀ i, (h : i < l.length) → (0 :: l).getD i 0 < l[i] ∧ l[i] ≤ 1000 := by
  rw [allB_true]
  refine forall_congr' fun i => ?_
  constructor
  · intro h hi
    have h := h hi
    have hg : l.getD i 0 = l[i] := by simp [hi]
    simp only [okAt, hg, Bool.not_eq_true', Bool.or_eq_false_iff, decide_eq_false_iff_not] at h
    omega
  · intro h hi
    have h := h hi
    have hg : l.getD i 0 = l[i] := by simp [hi]
    simp only [okAt, hg, Bool.not_eq_true', Bool.or_eq_false_iff, decide_eq_false_iff_not]
    omega
theorem rise_oks (l : List Int) : riseB l = allB (okAt l) l.length := by
  rw [Bool.eq_iff_iff, rise_iff, oks_iff]
  constructor
  · intro h i hi
    have h1 := h i hi
    cases i with
    | zero => simp; omega
    | succ i => exact ⟨by simpa using h1.2.2 (by omega), h1.2.1⟩
  · intro h i
    induction i with
    | zero => intro hi; have h1 := h 0 hi; simp at h1; exact ⟨by omega, h1.2, fun h => by omega⟩
    | succ i ih =>
      intro hi
      have h1 := h (i + 1) hi
      have h2 := ih (by omega)
      have e : (0 :: l).getD (i + 1) 0 = l[i] := by simp [show i < l.length by omega]
      rw [e] at h1
      exact ⟨by omega, h1.2, fun _ => by simp [show i < l.length by omega]; omega⟩
theorem ids_eq (l : List Int) (m : Int) : idsB l m = ((decide (1 ≤ (l.length : Int)) && decide ((l.length : Int) ≤ m)) && riseB l) := by
  rw [idsB, rise_oks]
  congr 1
  rw [Bool.eq_iff_iff]
  simp only [Bool.not_eq_true', Bool.or_eq_false_iff, decide_eq_false_iff_not, Bool.and_eq_true, decide_eq_true_eq]
  omega
theorem cutRB_eq (l : List Int) : cutRB l = idsB l 32 := by rw [ids_eq, cutRB]
end Go.Proofs.Ytmfgjjnmfahcjaa
