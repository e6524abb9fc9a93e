/- The laws of this seat, part K14: contracts of the functions, plain laws. No conditions. -/
import Derived.Test.YthdpjinchanceaaH14
set_option linter.unusedSimpArgs false
set_option linter.unusedVariables false
namespace Go.Proofs.Ythdpjinchanceaa
open Go.Lift
theorem r41 (n : Int) : Ret Try.prog 41 [.v (.int .i64 n)] (.v (.bool (identB n))) := by
  refine ret_of_body (fn := Try.f41) (c := Try.f41.body.getD .skip) hm hT (by kernel_rfl) Try.func41 (by kernel_rfl) (by kernel_rfl) (by kernel_rfl) (by kernel_rfl) ?_
  repeat' ((conv => whnf); first | refine And.intro (fun h => h) ?_ | refine dcond_t (by assumption) ?_ | refine dcond_f (by assumption) ?_ | (refine dcond_intro ?_ ?_ <;> intro h) | exact .refl | refine And.intro (by kernel_rfl) ?_ | refine And.intro ⟨fun h => h, fun h => h⟩ ?_ | (refine And.intro ?_ ?_; focus (simp; done)) | fail)
theorem r34 (l : List Int) (hl : l.length ≤ maxLen) (x : Int) : Ret Try.prog 34 [.lst 1 (l.map intE) false, .v (.int .i64 x)] (.v (.int .i64 (placeB l x))) := by
  have hl' : l.length ≤ 9223372036854775807 := hl
  refine ret_of_body (fn := Try.f34) (c := Try.f34.body.getD .skip) hm hT (by kernel_rfl) Try.func34 (by kernel_rfl) (by kernel_rfl) (by kernel_rfl) (by kernel_rfl) ?_
  repeat' ((conv => whnf); first | refine And.intro (fun h => h) ?_ | refine dcond_t (by assumption) ?_ | refine dcond_f (by assumption) ?_ | (refine dcond_intro ?_ ?_ <;> intro h) | exact .refl | refine And.intro (by kernel_rfl) ?_ | refine And.intro ⟨fun h => h, fun h => h⟩ ?_ | (refine And.intro ?_ ?_; focus (simp; done)) | fail)
  refine ⟨Nat, fun i => ⟨[(0, .lst 1 (l.map intE) false), (1, .v (.int .i64 x)), (5, i64 i)], []⟩, fun i => i ≤ l.length ∧ ∀ j, j < i → decide (l[j]? = some x) = false, fun i => l.length - i, [], ⟨0, ⟨Nat.zero_le _, by omega⟩, ?_⟩, ?_⟩
  · exact ⟨by repeat' ((conv => whnf); first | exact trivial | refine And.intro (by (conv => arg 1; whnf); first | (with_reducible exact .refl) | exact dle_int (wrap_succ (by omega)) | exact .refl) ?_), by repeat' ((conv => whnf); first | exact trivial | refine And.intro ?_ ?_ | exact .refl), rfl⟩
  · intro i ⟨hi, hall⟩
    repeat' ((conv => whnf); first | refine And.intro (fun h => h) ?_ | refine dcond_t (by assumption) ?_ | refine dcond_f (by assumption) ?_ | (refine dcond_intro ?_ ?_ <;> intro h) | exact .refl | refine And.intro (by kernel_rfl) ?_ | refine And.intro ⟨fun h => h, fun h => h⟩ ?_ | (refine And.intro ?_ ?_; focus (simp; done)) | fail)
    · have hlt : i < l.length := by simpa using h
      clear h
      repeat' ((conv => whnf); first | refine And.intro (fun h => h) ?_ | refine dcond_t (by assumption) ?_ | refine dcond_f (by assumption) ?_ | (refine dcond_intro ?_ ?_ <;> intro h) | exact .refl | refine And.intro (by kernel_rfl) ?_ | refine And.intro ⟨fun h => h, fun h => h⟩ ?_ | refine ⟨_, _, And.intro ⟨rfl, get_map hlt⟩ ?_⟩ | (refine And.intro ?_ ?_; focus (simp; done)) | fail)
      · refine dle_int (findB_at hlt ?_ hall).symm
        simpa [hlt] using h
      · conv => whnf
        refine ⟨i + 1, ⟨hlt, fun j hj => ?_⟩, by simp only []; omega, ?_⟩
        · rcases Nat.lt_succ_iff_lt_or_eq.1 hj with hj | rfl
          · exact hall j hj
          · simpa [hlt] using h
        · exact ⟨by repeat' ((conv => whnf); first | exact trivial | refine And.intro (by (conv => arg 1; whnf); first | (with_reducible exact .refl) | exact dle_int (wrap_succ (by omega)) | exact .refl) ?_), by repeat' ((conv => whnf); first | exact trivial | refine And.intro ?_ ?_ | exact .refl), rfl⟩
    · have hge : ¬ i < l.length := by simpa using h
      conv => whnf
      refine dle_int (findB_none (fun j hj => hall j (by omega))).symm
theorem r15 (l : List Int) (hl : l.length ≤ maxLen) (x : Int) : Ret Try.prog 15 [.lst 1 (l.map intE) false, .v (.int .i64 x)] (.v (.bool (inB l x))) := by
  refine ret_of_body (fn := Try.f15) (c := Try.f15.body.getD .skip) hm hT (by kernel_rfl) Try.func15 (by kernel_rfl) (by kernel_rfl) (by kernel_rfl) (by kernel_rfl) ?_
  repeat' ((conv => whnf); first | refine And.intro (fun h => h) ?_ | refine dcond_t (by assumption) ?_ | refine dcond_f (by assumption) ?_ | (refine dcond_intro ?_ ?_ <;> intro h) | exact .refl | refine And.intro (by kernel_rfl) ?_ | refine And.intro ⟨fun h => h, fun h => h⟩ ?_ | refine ⟨_, _, DleAll_refl _, r34 _ hl _, ?_⟩ | refine ⟨_, _, DleAll_refl _, fun _ => r34 _ hl _, ?_⟩ | (refine And.intro ?_ ?_; focus (simp; done)) | fail)
def riseAt (l : List Int) (i : Nat) : Bool := !(!identB (l.getD i 0) || decide (0 < (i : Int)) && decide (l.getD i 0 ≤ l.getD (i - 1) 0))
theorem r29 (l : List Int) (hl : l.length ≤ maxLen) : Ret Try.prog 29 [.lst 1 (l.map intE) false] (.v (.bool (allB (riseAt l) l.length))) := by
  have hl' : l.length ≤ 9223372036854775807 := hl
  refine ret_of_body (fn := Try.f29) (c := Try.f29.body.getD .skip) hm hT (by kernel_rfl) Try.func29 (by kernel_rfl) (by kernel_rfl) (by kernel_rfl) (by kernel_rfl) ?_
  repeat' ((conv => whnf); first | refine And.intro (fun h => h) ?_ | refine dcond_t (by assumption) ?_ | refine dcond_f (by assumption) ?_ | (refine dcond_intro ?_ ?_ <;> intro h) | exact .refl | refine And.intro (by kernel_rfl) ?_ | refine And.intro ⟨fun h => h, fun h => h⟩ ?_ | (refine And.intro ?_ ?_; focus (simp; done)) | fail)
  refine ⟨Nat, fun i => ⟨[(0, .lst 1 (l.map intE) false), (3, i64 i)], []⟩, fun i => i ≤ l.length ∧ ∀ j, j < i → riseAt l j = true, fun i => l.length - i, [], ⟨0, ⟨Nat.zero_le _, by omega⟩, ?_⟩, ?_⟩
  · exact ⟨by repeat' ((conv => whnf); first | exact trivial | refine And.intro (by (conv => arg 1; whnf); first | (with_reducible exact .refl) | exact dle_int (wrap_succ (by omega)) | exact .refl) ?_), by repeat' ((conv => whnf); first | exact trivial | refine And.intro ?_ ?_ | exact .refl), rfl⟩
  · intro i ⟨hi, hall⟩
    repeat' ((conv => whnf); first | refine And.intro (fun h => h) ?_ | refine dcond_t (by assumption) ?_ | refine dcond_f (by assumption) ?_ | (refine dcond_intro ?_ ?_ <;> intro h) | exact .refl | refine And.intro (by kernel_rfl) ?_ | refine And.intro ⟨fun h => h, fun h => h⟩ ?_ | (refine And.intro ?_ ?_; focus (simp; done)) | fail)
    · have hlt : i < l.length := by simpa using h
      clear h
      have hg : l.getD i 0 = l[i] := by simp [hlt]
      have hg2 : l.getD (i - 1) 0 = l[i - 1] := by simp [show i - 1 < l.length by omega]
      repeat' ((conv => whnf); first | refine And.intro (fun h => h) ?_ | refine dcond_t (by assumption) ?_ | refine dcond_f (by assumption) ?_ | (refine dcond_intro ?_ ?_ <;> intro h) | exact .refl | refine And.intro (by kernel_rfl) ?_ | refine And.intro ⟨fun h => h, fun h => h⟩ ?_ | refine ⟨_, _, And.intro ⟨rfl, get_map hlt⟩ ?_⟩ | refine ⟨_, _, DleAll_refl _, r41 _, ?_⟩ | refine ⟨_, _, DleAll_refl _, fun _ => r41 _, ?_⟩ | refine ⟨i, intE (l[i]'hlt), And.intro ⟨⟨fun h => h, fun h => h⟩, fun hg => ⟨rfl, get_map hlt⟩⟩ ?_⟩ | refine ⟨i - 1, intE (l[i - 1]'(by omega)), And.intro ⟨⟨fun h => h, fun h => h⟩, fun hg => ⟨wrap_pred (by omega) (Bool.and_eq_true _ _ ▸ hg).2, get_map (by omega)⟩⟩ ?_⟩ | (refine And.intro ?_ ?_; focus (simp; done)) | fail)
      all_goals (conv => whnf)
      · refine dle_bool ?_
        rw [allB_false hlt (i := i)]
        simp only [riseAt, hg, hg2, h]
        rfl
      · refine ⟨i + 1, ⟨hlt, fun j hj => ?_⟩, by simp only []; omega, ?_⟩
        · rcases Nat.lt_succ_iff_lt_or_eq.1 hj with hj | rfl
          · exact hall j hj
          · simp only [riseAt, hg, hg2, h]
            rfl
        · exact ⟨by repeat' ((conv => whnf); first | exact trivial | refine And.intro (by (conv => arg 1; whnf); first | (with_reducible exact .refl) | exact dle_int (wrap_succ (by omega)) | exact .refl) ?_), by repeat' ((conv => whnf); first | exact trivial | refine And.intro ?_ ?_ | exact .refl), rfl⟩
    · have hge : ¬ i < l.length := by simpa using h
      conv => whnf
      refine dle_bool ?_
      rw [allB_true.2 (fun j hj => hall j (by omega))]
def idsR (l : List Int) : Bool := decide (1 ≤ (l.length : Int)) && decide ((l.length : Int) ≤ 16) && allB (riseAt l) l.length
theorem r11 (l : List Int) (hl : l.length ≤ maxLen) : Ret Try.prog 11 [.lst 1 (l.map intE) false] (.v (.bool (idsR l))) := by
  refine ret_of_body (fn := Try.f11) (c := Try.f11.body.getD .skip) hm hT (by kernel_rfl) Try.func11 (by kernel_rfl) (by kernel_rfl) (by kernel_rfl) (by kernel_rfl) ?_
  repeat' ((conv => whnf); first | refine And.intro (fun h => h) ?_ | refine dcond_t (by assumption) ?_ | refine dcond_f (by assumption) ?_ | (refine dcond_intro ?_ ?_ <;> intro h) | exact .refl | refine And.intro (by kernel_rfl) ?_ | refine And.intro ⟨fun h => h, fun h => h⟩ ?_ | refine ⟨_, _, DleAll_refl _, r29 _ hl, ?_⟩ | refine ⟨_, _, DleAll_refl _, fun _ => r29 _ hl, ?_⟩ | (refine And.intro ?_ ?_; focus (simp; done)) | fail)
  all_goals (conv => whnf)
  refine dle_bool ?_
  simp only [List.length_map]
  rfl
def viewR (v : View) : Bool := (decide (0 ≤ v.num) && decide (v.num ≤ 1099511627776)) && idsR v.mem
theorem r17 (v : View) (hl : v.mem.length ≤ maxLen) : Ret Try.prog 17 [.agg (viewE v)] (.v (.bool (viewR v))) := by
  refine ret_of_body (fn := Try.f17) (c := Try.f17.body.getD .skip) hm hT (by kernel_rfl) Try.func17 (by kernel_rfl) (by kernel_rfl) (by kernel_rfl) (by kernel_rfl) ?_
  repeat' ((conv => whnf); first | refine And.intro (fun h => h) ?_ | refine dcond_t (by assumption) ?_ | refine dcond_f (by assumption) ?_ | (refine dcond_intro ?_ ?_ <;> intro h) | exact .refl | refine And.intro (by kernel_rfl) ?_ | refine And.intro ⟨fun h => h, fun h => h⟩ ?_ | refine ⟨_, _, DleAll_refl _, r11 _ hl, ?_⟩ | refine ⟨_, _, DleAll_refl _, fun _ => r11 _ hl, ?_⟩ | (refine And.intro ?_ ?_; focus (simp; done)) | fail)
end Go.Proofs.Ythdpjinchanceaa
