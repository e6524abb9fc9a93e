/- The laws of this seat, part Nref3b: contracts of the functions, plain laws. No conditions. -/
import Derived.Test.YtmfgjjnmfahcjaaN9
set_option linter.unusedSimpArgs false
set_option linter.unusedVariables false
namespace Go.Proofs.Ytmfgjjnmfahcjaa
open Go.Lift
/-! reference 3, second part (expects: splitR, nextR, fitsI, ole_row and the first part) -/
theorem c_ref3_Place (l : List Int) (hl : l.length ≤ maxLen) (x : Int) : Ret Try.prog 63 [.lst 1 (l.map intE) false, .v (.int .i64 x)] (.v (.int .i64 (placeB l x))) := by
  have hl' : l.length ≤ 9223372036854775807 := hl
  refine ret_of_body (fn := Try.f63) (c := Try.f63.body.getD .skip) hm hT (by kernel_rfl) Try.func63 (by kernel_rfl) (by kernel_rfl) (by kernel_rfl) (by kernel_rfl) ?_
  repeat' ((conv => whnf); first | refine And.intro (fun h => h) ?_ | refine dcond_t (by assumption) ?_ | refine dcond_f (by assumption) ?_ | (refine dcond_intro ?_ ?_ <;> intro h) | exact .refl | refine And.intro (by kernel_rfl) ?_ | refine And.intro ⟨fun h => h, fun h => h⟩ ?_ | (refine And.intro ?_ ?_; focus (simp; done)) | fail)
  refine ⟨Nat, fun i => ⟨[(0, .lst 1 (l.map intE) false), (1, .v (.int .i64 x)), (5, i64 i)], []⟩, fun i => i ≤ l.length ∧ ∀ j, j < i → decide (l[j]? = some x) = false, fun i => l.length - i, [], ⟨0, ⟨Nat.zero_le _, by omega⟩, ?_⟩, ?_⟩
  · exact ⟨by repeat' ((conv => whnf); first | exact trivial | refine And.intro (by (conv => arg 1; whnf); first | (with_reducible exact .refl) | exact dle_int (wrap_succ (by omega)) | exact .refl) ?_), by repeat' ((conv => whnf); first | exact trivial | refine And.intro ?_ ?_ | exact .refl), rfl⟩
  · intro i ⟨hi, hall⟩
    repeat' ((conv => whnf); first | refine And.intro (fun h => h) ?_ | refine dcond_t (by assumption) ?_ | refine dcond_f (by assumption) ?_ | (refine dcond_intro ?_ ?_ <;> intro h) | exact .refl | refine And.intro (by kernel_rfl) ?_ | refine And.intro ⟨fun h => h, fun h => h⟩ ?_ | (refine And.intro ?_ ?_; focus (simp; done)) | fail)
    · have hlt : i < l.length := by simpa using h
      repeat' ((conv => whnf); first | refine And.intro (fun h => h) ?_ | refine dcond_t (by assumption) ?_ | refine dcond_f (by assumption) ?_ | (refine dcond_intro ?_ ?_ <;> intro h) | exact .refl | refine And.intro (by kernel_rfl) ?_ | refine And.intro ⟨fun h => h, fun h => h⟩ ?_ | refine ⟨_, _, And.intro ⟨rfl, get_map hlt⟩ ?_⟩ | (refine And.intro ?_ ?_; focus (simp; done)) | fail)
      · have h2 := h
        refine dle_int (findB_at hlt ?_ hall).symm
        simpa [hlt] using h2
      · have h2 := h
        conv => whnf
        refine ⟨i + 1, ⟨hlt, fun j hj => ?_⟩, by simp only []; omega, ?_⟩
        · rcases Nat.lt_succ_iff_lt_or_eq.1 hj with hj | rfl
          · exact hall j hj
          · simpa [hlt] using h2
        · exact ⟨by repeat' ((conv => whnf); first | exact trivial | refine And.intro (by (conv => arg 1; whnf); first | (with_reducible exact .refl) | exact dle_int (wrap_succ (by omega)) | exact .refl) ?_), by repeat' ((conv => whnf); first | exact trivial | refine And.intro ?_ ?_ | exact .refl), rfl⟩
    · have hge : ¬ i < l.length := by simpa using h
      conv => whnf
      refine dle_int (findB_none (fun j hj => hall j (by omega))).symm
theorem c_ref3_Contains (l : List Int) (hl : l.length ≤ maxLen) (x : Int) : Ret Try.prog 45 [.lst 1 (l.map intE) false, .v (.int .i64 x)] (.v (.bool (inB l x))) := by
  refine ret_of_body (fn := Try.f45) (c := Try.f45.body.getD .skip) hm hT (by kernel_rfl) Try.func45 (by kernel_rfl) (by kernel_rfl) (by kernel_rfl) (by kernel_rfl) ?_
  repeat' ((conv => whnf); first | refine And.intro (fun h => h) ?_ | refine dcond_t (by assumption) ?_ | refine dcond_f (by assumption) ?_ | (refine dcond_intro ?_ ?_ <;> intro h) | exact .refl | refine And.intro (by kernel_rfl) ?_ | refine And.intro ⟨fun h => h, fun h => h⟩ ?_ | refine .inl ⟨_, _, DleAll_refl _, c_ref3_Place _ hl _, ?_⟩ | refine ⟨_, _, DleAll_refl _, fun _ => c_ref3_Place _ hl _, ?_⟩ | refine ⟨_, _, DleAll_refl _, c_ref3_Place _ hl _, ?_⟩ | (refine And.intro ?_ ?_; focus (simp; done)) | fail)
def memRB (l : List Int) : Bool := (decide (1 ≤ (l.length : Int)) && decide ((l.length : Int) ≤ 16)) && riseB l
theorem memRB_eq (l : List Int) : memRB l = idsB l 16 := by rw [ids_eq, memRB]
theorem c_ref3_ValidMembers (l : List Int) (hl : l.length ≤ maxLen) : Ret Try.prog 46 [.lst 1 (l.map intE) false] (.v (.bool (idsB l 16))) := by
  rw [← memRB_eq]
  refine ret_of_body (fn := Try.f46) (c := Try.f46.body.getD .skip) hm hT (by kernel_rfl) Try.func46 (by kernel_rfl) (by kernel_rfl) (by kernel_rfl) (by kernel_rfl) ?_
  repeat' ((conv => whnf); first | refine And.intro (fun h => h) ?_ | refine dcond_t (by assumption) ?_ | refine dcond_f (by assumption) ?_ | (refine dcond_intro ?_ ?_ <;> intro h) | exact .refl | refine And.intro (by kernel_rfl) ?_ | refine And.intro ⟨fun h => h, fun h => h⟩ ?_ | refine .inl ⟨_, _, DleAll_refl _, c_ref3_Rising _ hl, ?_⟩ | refine ⟨_, _, DleAll_refl _, fun _ => c_ref3_Rising _ hl, ?_⟩ | refine ⟨_, _, DleAll_refl _, c_ref3_Rising _ hl, ?_⟩ | (refine And.intro ?_ ?_; focus (simp; done)) | fail)
  all_goals (conv => whnf)
  refine dle_bool ?_
  simp only [memRB, List.length_map]
theorem c_ref3_Valid (v : View) (hl : v.mem.length ≤ maxLen) : Ret Try.prog 27 [.agg (viewE v)] (.v (.bool (viewB v))) := by
  refine ret_of_body (fn := Try.f27) (c := Try.f27.body.getD .skip) hm hT (by kernel_rfl) Try.func27 (by kernel_rfl) (by kernel_rfl) (by kernel_rfl) (by kernel_rfl) ?_
  repeat' ((conv => whnf); first | refine And.intro (fun h => h) ?_ | refine dcond_t (by assumption) ?_ | refine dcond_f (by assumption) ?_ | (refine dcond_intro ?_ ?_ <;> intro h) | exact .refl | refine And.intro (by kernel_rfl) ?_ | refine And.intro ⟨fun h => h, fun h => h⟩ ?_ | refine .inl ⟨_, _, DleAll_refl _, c_ref3_ValidMembers _ hl, ?_⟩ | refine ⟨_, _, DleAll_refl _, fun _ => c_ref3_ValidMembers _ hl, ?_⟩ | refine ⟨_, _, DleAll_refl _, c_ref3_ValidMembers _ hl, ?_⟩ | (refine And.intro ?_ ?_; focus (simp; done)) | fail)
def amongB (m : List Int) (b : Bool) (x : Int) : Bool := inB m x == b
def amongP (l m : List Int) (b : Bool) (i : Nat) : List (List DV) := ((l.take i).filter (amongB m b)).map intE
theorem amongP_len (l m : List Int) (b : Bool) (i : Nat) : (amongP l m b i).length ≤ i := by
  simp only [amongP, List.length_map]
  exact Nat.le_trans (List.length_filter_le _ _) (by simp; omega)
theorem c_ref3_Among (l m : List Int) (hl : l.length ≤ 1000000) (hm' : m.length ≤ maxLen) (b : Bool) : Ret Try.prog 74 [.lst 1 (l.map intE) false, .lst 1 (m.map intE) false, .v (.bool b)] (.lst 1 ((l.filter (amongB m b)).map intE) false) := by
  refine ret_of_body (fn := Try.f74) (c := Try.f74.body.getD .skip) hm hT (by kernel_rfl) Try.func74 (by kernel_rfl) (by kernel_rfl) (by kernel_rfl) (by kernel_rfl) ?_
  repeat' ((conv => whnf); first | refine And.intro (fun h => h) ?_ | refine dcond_t (by assumption) ?_ | refine dcond_f (by assumption) ?_ | (refine dcond_intro ?_ ?_ <;> intro h) | exact .refl | refine And.intro (by kernel_rfl) ?_ | refine And.intro ⟨fun h => h, fun h => h⟩ ?_ | (refine And.intro ?_ ?_; focus (simp; done)) | fail)
  refine ⟨Nat, fun i => ⟨[(0, .lst 1 (l.map intE) false), (1, .lst 1 (m.map intE) false), (2, .v (.bool b)), (7, .own 0), (8, i64 i)], [.row 3 1 (amongP l m b i)]⟩, fun i => i ≤ l.length, fun i => l.length - i, [.slot 7 3 1], ⟨0, Nat.zero_le _, ?_⟩, ?_⟩
  · conv => whnf
    exact ⟨by repeat' ((conv => whnf); first | exact trivial | refine And.intro (by (conv => arg 1; whnf); first | (with_reducible exact .refl) | exact dle_int (wrap_succ (by omega)) | exact .refl) ?_), by repeat' ((conv => whnf); first | exact trivial | refine And.intro ?_ ?_ | exact .refl), rfl⟩
  · intro i hi
    repeat' ((conv => whnf); first | refine And.intro (fun h => h) ?_ | refine dcond_t (by assumption) ?_ | refine dcond_f (by assumption) ?_ | (refine dcond_intro ?_ ?_ <;> intro h) | exact .refl | refine And.intro (by kernel_rfl) ?_ | refine And.intro ⟨fun h => h, fun h => h⟩ ?_ | (refine And.intro ?_ ?_; focus (simp; done)) | fail)
    · have hlt : i < l.length := by simpa using h
      clear h
      repeat' ((conv => whnf); first | refine And.intro (fun h => h) ?_ | refine dcond_t (by assumption) ?_ | refine dcond_f (by assumption) ?_ | (refine dcond_intro ?_ ?_ <;> intro h) | exact .refl | refine And.intro (by kernel_rfl) ?_ | refine And.intro ⟨fun h => h, fun h => h⟩ ?_ | refine ⟨_, _, And.intro ⟨rfl, get_map hlt⟩ ?_⟩ | refine .inl ⟨_, _, DleAll_refl _, c_ref3_Contains _ hm' _, ?_⟩ | refine ⟨_, _, DleAll_refl _, fun _ => c_ref3_Contains _ hm' _, ?_⟩ | refine ⟨_, _, DleAll_refl _, c_ref3_Contains _ hm' _, ?_⟩ | (refine And.intro ?_ ?_; focus (simp; done)) | fail)
      all_goals (conv => whnf)
      · have hA := amongP_len l m b i
        refine And.intro (fitsI (by simp; omega)) ?_
        repeat' ((conv => whnf); first | refine And.intro (fun h => h) ?_ | refine dcond_t (by assumption) ?_ | refine dcond_f (by assumption) ?_ | (refine dcond_intro ?_ ?_ <;> intro h) | exact .refl | refine And.intro (by kernel_rfl) ?_ | refine And.intro ⟨fun h => h, fun h => h⟩ ?_ | (refine And.intro ?_ ?_; focus (simp; done)) | fail)
        all_goals (conv => whnf)
        refine ⟨i + 1, hlt, by simp only []; omega, ?_⟩
        refine ⟨⟨.refl, .refl, .refl, .refl, dle_int (wrap_succ (by omega)), trivial⟩, ⟨ole_row ?_, trivial⟩, rfl⟩
        simp only [amongP, List.take_succ_eq_append_getElem hlt, List.filter_append, List.map_append]
        have h' : amongB m b l[i] = true := h
        simp [List.filter_cons, h', intE, dcells]
      · refine ⟨i + 1, hlt, by simp only []; omega, ?_⟩
        refine ⟨⟨.refl, .refl, .refl, .refl, dle_int (wrap_succ (by omega)), trivial⟩, ⟨ole_row ?_, trivial⟩, rfl⟩
        simp only [amongP, List.take_succ_eq_append_getElem hlt, List.filter_append, List.map_append]
        have h' : amongB m b l[i] = false := h
        simp [List.filter_cons, h']
    · have hge : ¬ i < l.length := by simpa using h
      have : i = l.length := by omega
      subst this
      repeat' ((conv => whnf); first | refine And.intro (fun h => h) ?_ | refine dcond_t (by assumption) ?_ | refine dcond_f (by assumption) ?_ | (refine dcond_intro ?_ ?_ <;> intro h) | exact .refl | refine And.intro (by kernel_rfl) ?_ | refine And.intro ⟨fun h => h, fun h => h⟩ ?_ | (refine And.intro ?_ ?_; focus (simp; done)) | fail)
      all_goals (conv => whnf)
      refine dle_lst ?_
      simp [amongP]
theorem c_ref3_Survivors (v : View) (hv : v.mem.length ≤ 1000000) (cut : List Int) (hc : cut.length ≤ 1000000) : Ret Try.prog 68 [.agg (viewE v), .lst 1 (cut.map intE) false] (.lst 1 ((splitR v cut v.mem cut).2.map intE) false) := by
  have h1 : v.mem.length ≤ maxLen := Nat.le_trans hv (by decide)
  have h2 : cut.length ≤ maxLen := Nat.le_trans hc (by decide)
  refine ret_of_body (fn := Try.f68) (c := Try.f68.body.getD .skip) hm hT (by kernel_rfl) Try.func68 (by kernel_rfl) (by kernel_rfl) (by kernel_rfl) (by kernel_rfl) ?_
  repeat' ((conv => whnf); first | refine And.intro (fun h => h) ?_ | refine dcond_t (by assumption) ?_ | refine dcond_f (by assumption) ?_ | (refine dcond_intro ?_ ?_ <;> intro h) | exact .refl | refine And.intro (by kernel_rfl) ?_ | refine And.intro ⟨fun h => h, fun h => h⟩ ?_ | refine .inl ⟨_, _, DleAll_refl _, c_ref3_Valid _ h1, ?_⟩ | refine ⟨_, _, DleAll_refl _, fun _ => c_ref3_Valid _ h1, ?_⟩ | refine ⟨_, _, DleAll_refl _, c_ref3_Valid _ h1, ?_⟩ | refine .inl ⟨_, _, DleAll_refl _, c_ref3_ValidCut _ h2, ?_⟩ | refine ⟨_, _, DleAll_refl _, fun _ => c_ref3_ValidCut _ h2, ?_⟩ | refine ⟨_, _, DleAll_refl _, c_ref3_ValidCut _ h2, ?_⟩ | refine .inl ⟨_, _, DleAll_refl _, c_ref3_Among _ _ hv h2 _, ?_⟩ | refine ⟨_, _, DleAll_refl _, fun _ => c_ref3_Among _ _ hv h2 _, ?_⟩ | refine ⟨_, _, DleAll_refl _, c_ref3_Among _ _ hv h2 _, ?_⟩ | (refine And.intro ?_ ?_; focus (simp; done)) | fail)
  all_goals (conv => whnf)
  all_goals (try simp only [cutRB_eq] at *)
  all_goals simp only [splitR, *, cond_true, cond_false]
  · exact .nl
  · refine dle_lst ?_
    congr 1
    apply List.filter_congr
    intro x _
    simp [amongB]
theorem c_ref3_Joiners (v : View) (hv : v.mem.length ≤ 1000000) (cut : List Int) (hc : cut.length ≤ 1000000) : Ret Try.prog 69 [.agg (viewE v), .lst 1 (cut.map intE) false] (.lst 1 ((splitR v cut cut v.mem).2.map intE) false) := by
  have h1 : v.mem.length ≤ maxLen := Nat.le_trans hv (by decide)
  have h2 : cut.length ≤ maxLen := Nat.le_trans hc (by decide)
  refine ret_of_body (fn := Try.f69) (c := Try.f69.body.getD .skip) hm hT (by kernel_rfl) Try.func69 (by kernel_rfl) (by kernel_rfl) (by kernel_rfl) (by kernel_rfl) ?_
  repeat' ((conv => whnf); first | refine And.intro (fun h => h) ?_ | refine dcond_t (by assumption) ?_ | refine dcond_f (by assumption) ?_ | (refine dcond_intro ?_ ?_ <;> intro h) | exact .refl | refine And.intro (by kernel_rfl) ?_ | refine And.intro ⟨fun h => h, fun h => h⟩ ?_ | refine .inl ⟨_, _, DleAll_refl _, c_ref3_Valid _ h1, ?_⟩ | refine ⟨_, _, DleAll_refl _, fun _ => c_ref3_Valid _ h1, ?_⟩ | refine ⟨_, _, DleAll_refl _, c_ref3_Valid _ h1, ?_⟩ | refine .inl ⟨_, _, DleAll_refl _, c_ref3_ValidCut _ h2, ?_⟩ | refine ⟨_, _, DleAll_refl _, fun _ => c_ref3_ValidCut _ h2, ?_⟩ | refine ⟨_, _, DleAll_refl _, c_ref3_ValidCut _ h2, ?_⟩ | refine .inl ⟨_, _, DleAll_refl _, c_ref3_Among _ _ hc h1 _, ?_⟩ | refine ⟨_, _, DleAll_refl _, fun _ => c_ref3_Among _ _ hc h1 _, ?_⟩ | refine ⟨_, _, DleAll_refl _, c_ref3_Among _ _ hc h1 _, ?_⟩ | (refine And.intro ?_ ?_; focus (simp; done)) | fail)
  all_goals (conv => whnf)
  all_goals (try simp only [cutRB_eq] at *)
  all_goals simp only [splitR, *, cond_true, cond_false]
  · exact .nl
  · refine dle_lst ?_
    congr 1
    apply List.filter_congr
    intro x _
    simp [amongB]
/-- the list so far, and whether the new element is in -/
def insA (l : List Int) (x : Int) : Nat → List Int × Bool
  | 0 => ([], false)
  | i + 1 => bif !(insA l x i).2 && decide (x < l.getD i 0) then ((insA l x i).1 ++ [x] ++ [l.getD i 0], true) else ((insA l x i).1 ++ [l.getD i 0], (insA l x i).2)
def insL (l : List Int) (x : Int) : List Int := bif (insA l x l.length).2 then (insA l x l.length).1 else (insA l x l.length).1 ++ [x]
theorem insA_len (l : List Int) (x : Int) : ∀ i, (insA l x i).1.length ≤ i + 1 ∧ ((insA l x i).2 = false → (insA l x i).1.length ≤ i)
  | 0 => by simp [insA]
  | i + 1 => by
    have ih := insA_len l x i
    simp only [insA]
    cases h : (insA l x i).2 <;> cases h2 : decide (x < l.getD i 0) <;> simp_all <;> omega
theorem insL_len (l : List Int) (x : Int) : (insL l x).length ≤ l.length + 1 := by
  have := insA_len l x l.length
  unfold insL
  cases h : (insA l x l.length).2 <;> simp_all
theorem c_ref3_Insert (l : List Int) (hl : l.length ≤ 1000000) (x : Int) : Ret Try.prog 70 [.lst 1 (l.map intE) false, .v (.int .i64 x)] (.lst 1 ((insL l x).map intE) false) := by
  refine ret_of_body (fn := Try.f70) (c := Try.f70.body.getD .skip) hm hT (by kernel_rfl) Try.func70 (by kernel_rfl) (by kernel_rfl) (by kernel_rfl) (by kernel_rfl) ?_
  repeat' ((conv => whnf); first | refine And.intro (fun h => h) ?_ | refine dcond_t (by assumption) ?_ | refine dcond_f (by assumption) ?_ | (refine dcond_intro ?_ ?_ <;> intro h) | exact .refl | refine And.intro (by kernel_rfl) ?_ | refine And.intro ⟨fun h => h, fun h => h⟩ ?_ | (refine And.intro ?_ ?_; focus (simp; done)) | fail)
  refine ⟨Nat, fun i => ⟨[(0, .lst 1 (l.map intE) false), (1, .v (.int .i64 x)), (5, .own 0), (6, .v (.bool (insA l x i).2)), (7, i64 i)], [.row 3 1 ((insA l x i).1.map intE)]⟩, fun i => i ≤ l.length, fun i => l.length - i, [.slot 5 3 1], ⟨0, Nat.zero_le _, ?_⟩, ?_⟩
  · conv => whnf
    exact ⟨by repeat' ((conv => whnf); first | exact trivial | refine And.intro (by (conv => arg 1; whnf); first | (with_reducible exact .refl) | exact dle_int (wrap_succ (by omega)) | exact .refl) ?_), by repeat' ((conv => whnf); first | exact trivial | refine And.intro ?_ ?_ | exact .refl), rfl⟩
  · intro i hi
    have hA := insA_len l x i
    repeat' ((conv => whnf); first | refine And.intro (fun h => h) ?_ | refine dcond_t (by assumption) ?_ | refine dcond_f (by assumption) ?_ | (refine dcond_intro ?_ ?_ <;> intro h) | exact .refl | refine And.intro (by kernel_rfl) ?_ | refine And.intro ⟨fun h => h, fun h => h⟩ ?_ | (refine And.intro ?_ ?_; focus (simp; done)) | fail)
    · have hlt : i < l.length := by simpa using h
      clear h
      have hg : l.getD i 0 = l[i] := by simp [hlt]
      repeat' ((conv => whnf); first | refine And.intro (fun h => h) ?_ | refine dcond_t (by assumption) ?_ | refine dcond_f (by assumption) ?_ | (refine dcond_intro ?_ ?_ <;> intro h) | exact .refl | refine And.intro (by kernel_rfl) ?_ | refine And.intro ⟨fun h => h, fun h => h⟩ ?_ | refine ⟨_, _, And.intro ⟨rfl, get_map hlt⟩ ?_⟩ | refine ⟨i, intE (l[i]'hlt), And.intro ⟨⟨fun h => h, fun h => h⟩, fun hg => ⟨rfl, get_map hlt⟩⟩ ?_⟩ | (refine And.intro ?_ ?_; focus (simp; done)) | fail)
      all_goals (conv => whnf)
      · have e : insA l x (i + 1) = ((insA l x i).1 ++ [x] ++ [l[i]], true) := by simp only [insA, hg, h, cond_true]
        refine And.intro (fitsI (by simp; omega)) ?_
        repeat' ((conv => whnf); first | refine And.intro (fun h => h) ?_ | refine dcond_t (by assumption) ?_ | refine dcond_f (by assumption) ?_ | (refine dcond_intro ?_ ?_ <;> intro h) | exact .refl | refine And.intro (by kernel_rfl) ?_ | refine And.intro ⟨fun h => h, fun h => h⟩ ?_ | refine ⟨_, _, And.intro ⟨rfl, get_map hlt⟩ ?_⟩ | (refine And.intro ?_ ?_; focus (simp; done)) | fail)
        all_goals (conv => whnf)
        refine And.intro (fitsI (by simp; omega)) ?_
        repeat' ((conv => whnf); first | refine And.intro (fun h => h) ?_ | refine dcond_t (by assumption) ?_ | refine dcond_f (by assumption) ?_ | (refine dcond_intro ?_ ?_ <;> intro h) | exact .refl | refine And.intro (by kernel_rfl) ?_ | refine And.intro ⟨fun h => h, fun h => h⟩ ?_ | (refine And.intro ?_ ?_; focus (simp; done)) | fail)
        all_goals (conv => whnf)
        refine ⟨i + 1, hlt, by simp only []; omega, ?_⟩
        refine ⟨⟨.refl, .refl, .refl, dle_bool (by rw [e]), dle_int (wrap_succ (by omega)), trivial⟩, ⟨ole_row ?_, trivial⟩, rfl⟩
        rw [e]
        simp [intE, dcells]
      · have e : insA l x (i + 1) = ((insA l x i).1 ++ [l[i]], (insA l x i).2) := by simp only [insA, hg, h, cond_false]
        repeat' ((conv => whnf); first | refine And.intro (fun h => h) ?_ | refine dcond_t (by assumption) ?_ | refine dcond_f (by assumption) ?_ | (refine dcond_intro ?_ ?_ <;> intro h) | exact .refl | refine And.intro (by kernel_rfl) ?_ | refine And.intro ⟨fun h => h, fun h => h⟩ ?_ | refine ⟨_, _, And.intro ⟨rfl, get_map hlt⟩ ?_⟩ | (refine And.intro ?_ ?_; focus (simp; done)) | fail)
        all_goals (conv => whnf)
        refine And.intro (fitsI (by simp; omega)) ?_
        repeat' ((conv => whnf); first | refine And.intro (fun h => h) ?_ | refine dcond_t (by assumption) ?_ | refine dcond_f (by assumption) ?_ | (refine dcond_intro ?_ ?_ <;> intro h) | exact .refl | refine And.intro (by kernel_rfl) ?_ | refine And.intro ⟨fun h => h, fun h => h⟩ ?_ | (refine And.intro ?_ ?_; focus (simp; done)) | fail)
        all_goals (conv => whnf)
        refine ⟨i + 1, hlt, by simp only []; omega, ?_⟩
        refine ⟨⟨.refl, .refl, .refl, dle_bool (by rw [e]), dle_int (wrap_succ (by omega)), trivial⟩, ⟨ole_row ?_, trivial⟩, rfl⟩
        rw [e]
        simp [intE, dcells]
    · rename_i hge0
      have hge : ¬ i < l.length := by simpa using hge0
      have : i = l.length := by omega
      subst this
      clear hge0
      have h : (insA l x l.length).2 = false := by simpa using h
      conv => whnf
      refine And.intro (fitsI (by simp; omega)) ?_
      repeat' ((conv => whnf); first | refine And.intro (fun h => h) ?_ | refine dcond_t (by assumption) ?_ | refine dcond_f (by assumption) ?_ | (refine dcond_intro ?_ ?_ <;> intro h) | exact .refl | refine And.intro (by kernel_rfl) ?_ | refine And.intro ⟨fun h => h, fun h => h⟩ ?_ | (refine And.intro ?_ ?_; focus (simp; done)) | fail)
      all_goals (conv => whnf)
      refine dle_lst ?_
      simp only [insL, h, cond_false]
      simp [intE, dcells]
    · rename_i hge0
      have hge : ¬ i < l.length := by simpa using hge0
      have : i = l.length := by omega
      subst this
      clear hge0
      have h : (insA l x l.length).2 = true := by simpa using h
      repeat' ((conv => whnf); first | refine And.intro (fun h => h) ?_ | refine dcond_t (by assumption) ?_ | refine dcond_f (by assumption) ?_ | (refine dcond_intro ?_ ?_ <;> intro h) | exact .refl | refine And.intro (by kernel_rfl) ?_ | refine And.intro ⟨fun h => h, fun h => h⟩ ?_ | (refine And.intro ?_ ?_; focus (simp; done)) | fail)
      all_goals (conv => whnf)
      refine dle_lst ?_
      simp only [insL, h, cond_true]
def insAll : List Int → List Int → List Int
  | l, [] => l
  | l, x :: r => insAll (insL l x) r
def insTo (l j : List Int) : Nat → List Int
  | 0 => l
  | i + 1 => insL (insTo l j i) (j.getD i 0)
theorem insTo_len (l j : List Int) : ∀ i, (insTo l j i).length ≤ l.length + i
  | 0 => Nat.le_refl _
  | i + 1 => by
    have := insTo_len l j i
    have h2 := insL_len (insTo l j i) (j.getD i 0)
    simp only [insTo]
    omega
def nextRR (v : View) (cut : List Int) : View × Int :=
  bif !viewB v || !idsB cut 32 then (⟨0, []⟩, 1)
  else bif decide (2 * ((stayL v cut).length : Int) ≤ (v.mem.length : Int)) then (⟨0, []⟩, 9)
  else bif decide (v.num = 1099511627776) || decide (16 < ((stayL v cut).length : Int) + ((comeL v cut).length : Int)) then (⟨0, []⟩, 5)
  else (⟨IntKind.i64.wrap (v.num + 1), insTo (stayL v cut) (comeL v cut) (comeL v cut).length⟩, 0)
theorem nextRR_err (v : View) (cut : List Int) : (nextRR v cut).2 = (nextR v cut).2 := by
  unfold nextRR nextR
  cases (!viewB v || !idsB cut 32) <;> simp only [cond_true, cond_false]
  cases decide (2 * ((stayL v cut).length : Int) ≤ (v.mem.length : Int)) <;> simp only [cond_true, cond_false]
  cases (decide (v.num = 1099511627776) || decide (16 < ((stayL v cut).length : Int) + ((comeL v cut).length : Int))) <;> simp only [cond_true, cond_false]
theorem c_ref3_Next (v : View) (hv : v.mem.length ≤ 500000) (cut : List Int) (hc : cut.length ≤ 500000) : Ret Try.prog 62 [.agg (viewE v), .lst 1 (cut.map intE) false] (.tup [.agg (viewE (nextRR v cut).1), .v (.int .i64 (nextRR v cut).2)]) := by
  have h1 : v.mem.length ≤ maxLen := Nat.le_trans hv (by decide)
  have h2 : cut.length ≤ maxLen := Nat.le_trans hc (by decide)
  have h3 : (stayL v cut).length ≤ 500000 := Nat.le_trans (split_len _ _ _ _) hv
  have h4 : (comeL v cut).length ≤ 500000 := Nat.le_trans (split_len _ _ _ _) hc
  have es : Ret Try.prog 68 [.agg (viewE v), .lst 1 (cut.map intE) false] (.lst 1 ((stayL v cut).map intE) false) := c_ref3_Survivors v (by omega) cut (by omega)
  have ej : Ret Try.prog 69 [.agg (viewE v), .lst 1 (cut.map intE) false] (.lst 1 ((comeL v cut).map intE) false) := c_ref3_Joiners v (by omega) cut (by omega)
  have w1 : IntKind.i64.wrap (2 * ((stayL v cut).length : Int)) = 2 * ((stayL v cut).length : Int) := wrap_i64 (by omega) (by omega)
  have w2 : IntKind.i64.wrap (((stayL v cut).length : Int) + ((comeL v cut).length : Int)) = ((stayL v cut).length : Int) + ((comeL v cut).length : Int) := wrap_i64 (by omega) (by omega)
  refine ret_of_body (fn := Try.f62) (c := Try.f62.body.getD .skip) hm hT (by kernel_rfl) Try.func62 (by kernel_rfl) (by kernel_rfl) (by kernel_rfl) (by kernel_rfl) ?_
  repeat' ((conv => whnf); first | refine And.intro (fun h => h) ?_ | refine dcond_t (by assumption) ?_ | refine dcond_f (by assumption) ?_ | (refine dcond_intro ?_ ?_ <;> intro h) | exact .refl | refine And.intro (by kernel_rfl) ?_ | refine And.intro ⟨fun h => h, fun h => h⟩ ?_ | refine .inl ⟨_, _, DleAll_refl _, c_ref3_Valid _ h1, ?_⟩ | refine ⟨_, _, DleAll_refl _, fun _ => c_ref3_Valid _ h1, ?_⟩ | refine ⟨_, _, DleAll_refl _, c_ref3_Valid _ h1, ?_⟩ | refine .inl ⟨_, _, DleAll_refl _, c_ref3_ValidCut _ h2, ?_⟩ | refine ⟨_, _, DleAll_refl _, fun _ => c_ref3_ValidCut _ h2, ?_⟩ | refine ⟨_, _, DleAll_refl _, c_ref3_ValidCut _ h2, ?_⟩ | refine .inl ⟨_, _, DleAll_refl _, es, ?_⟩ | refine ⟨_, _, DleAll_refl _, fun _ => es, ?_⟩ | refine ⟨_, _, DleAll_refl _, es, ?_⟩ | refine .inl ⟨_, _, DleAll_refl _, ej, ?_⟩ | refine ⟨_, _, DleAll_refl _, fun _ => ej, ?_⟩ | refine ⟨_, _, DleAll_refl _, ej, ?_⟩ | (refine And.intro ?_ ?_; focus (simp; done)) | fail)
  all_goals (conv => whnf)
  all_goals (try simp only [List.length_map, w1, w2, cutRB_eq] at *)
  · simp only [nextRR, *, cond_true, cond_false]
    exact dle_tupA ⟨dle_aggA ⟨.refl, .nl, trivial⟩, .refl, trivial⟩
  · simp only [nextRR, *, cond_true, cond_false]
    exact dle_tupA ⟨dle_aggA ⟨.refl, .nl, trivial⟩, .refl, trivial⟩
  · simp only [nextRR, *, cond_true, cond_false]
    exact dle_tupA ⟨dle_aggA ⟨.refl, .nl, trivial⟩, .refl, trivial⟩
  · have e : nextRR v cut = (⟨IntKind.i64.wrap (v.num + 1), insTo (stayL v cut) (comeL v cut) (comeL v cut).length⟩, 0) := by simp only [nextRR, *, cond_true, cond_false]
    rw [e]
    refine ⟨Nat, fun i => ⟨[(2, .lp 0 0), (4, .lp 1 0), (6, .lst 1 ((insTo (stayL v cut) (comeL v cut) i).map intE) false), (7, .lst 1 ((comeL v cut).map intE) false), (8, i64 i)], [.cells 44 (viewE v), .cells 44 [.v (.int .i64 0), .nl]]⟩, fun i => i ≤ (comeL v cut).length, fun i => (comeL v cut).length - i, [], ⟨0, Nat.zero_le _, ?_⟩, ?_⟩
    · exact ⟨by repeat' ((conv => whnf); first | exact trivial | refine And.intro (by (conv => arg 1; whnf); first | (with_reducible exact .refl) | exact dle_int (wrap_succ (by omega)) | exact .refl) ?_), by repeat' ((conv => whnf); first | exact trivial | refine And.intro ?_ ?_ | exact .refl), rfl⟩
    · intro i hi
      have hl := insTo_len (stayL v cut) (comeL v cut) i
      repeat' ((conv => whnf); first | refine And.intro (fun h => h) ?_ | refine dcond_t (by assumption) ?_ | refine dcond_f (by assumption) ?_ | (refine dcond_intro ?_ ?_ <;> intro h) | exact .refl | refine And.intro (by kernel_rfl) ?_ | refine And.intro ⟨fun h => h, fun h => h⟩ ?_ | (refine And.intro ?_ ?_; focus (simp; done)) | fail)
      · have hlt : i < (comeL v cut).length := by simpa using h
        repeat' ((conv => whnf); first | refine And.intro (fun h => h) ?_ | refine dcond_t (by assumption) ?_ | refine dcond_f (by assumption) ?_ | (refine dcond_intro ?_ ?_ <;> intro h) | exact .refl | refine And.intro (by kernel_rfl) ?_ | refine And.intro ⟨fun h => h, fun h => h⟩ ?_ | refine ⟨_, _, And.intro ⟨rfl, get_map hlt⟩ ?_⟩ | refine .inl ⟨_, _, DleAll_refl _, c_ref3_Insert _ (by omega) _, ?_⟩ | refine ⟨_, _, DleAll_refl _, fun _ => c_ref3_Insert _ (by omega) _, ?_⟩ | refine ⟨_, _, DleAll_refl _, c_ref3_Insert _ (by omega) _, ?_⟩ | (refine And.intro ?_ ?_; focus (simp; done)) | fail)
        all_goals (conv => whnf)
        refine ⟨i + 1, hlt, by simp only []; omega, ?_⟩
        refine ⟨⟨.refl, .refl, dle_lst ?_, .refl, dle_int (wrap_succ (by omega)), trivial⟩, ⟨.refl, .refl, trivial⟩, rfl⟩
        have hg : (comeL v cut).getD i 0 = (comeL v cut)[i] := by simp [hlt]
        simp only [insTo, hg]
      · have hge : ¬ i < (comeL v cut).length := by simpa using h
        have : i = (comeL v cut).length := by omega
        subst this
        repeat' ((conv => whnf); first | refine And.intro (fun h => h) ?_ | refine dcond_t (by assumption) ?_ | refine dcond_f (by assumption) ?_ | (refine dcond_intro ?_ ?_ <;> intro h) | exact .refl | refine And.intro (by kernel_rfl) ?_ | refine And.intro ⟨fun h => h, fun h => h⟩ ?_ | (refine And.intro ?_ ?_; focus (simp; done)) | fail)
theorem c_ref3_Applicable (v : View) (hv : v.mem.length ≤ 500000) (cut : List Int) (hc : cut.length ≤ 500000) : Ret Try.prog 44 [.agg (viewE v), .lst 1 (cut.map intE) false] (.v (.bool (decide ((nextR v cut).2 = 0)))) := by
  rw [← nextRR_err]
  refine ret_of_body (fn := Try.f44) (c := Try.f44.body.getD .skip) hm hT (by kernel_rfl) Try.func44 (by kernel_rfl) (by kernel_rfl) (by kernel_rfl) (by kernel_rfl) ?_
  repeat' ((conv => whnf); first | refine And.intro (fun h => h) ?_ | refine dcond_t (by assumption) ?_ | refine dcond_f (by assumption) ?_ | (refine dcond_intro ?_ ?_ <;> intro h) | exact .refl | refine And.intro (by kernel_rfl) ?_ | refine And.intro ⟨fun h => h, fun h => h⟩ ?_ | refine .inl ⟨_, _, DleAll_refl _, c_ref3_Next _ hv _ hc, ?_⟩ | refine ⟨_, _, DleAll_refl _, fun _ => c_ref3_Next _ hv _ hc, ?_⟩ | refine ⟨_, _, DleAll_refl _, c_ref3_Next _ hv _ hc, ?_⟩ | (refine And.intro ?_ ?_; focus (simp; done)) | fail)
end Go.Proofs.Ytmfgjjnmfahcjaa
