/- The laws of this seat, part D9: contracts of the functions, plain laws. No conditions. -/
import Derived.Test.YtmfgjjnmfahcjaaC9
set_option linter.unusedSimpArgs false
set_option linter.unusedVariables false
namespace Go.Proofs.Ytmfgjjnmfahcjaa
open Go.Lift
structure View where
  num : Int
  mem : List Int
def viewE (v : View) : List DV := [.v (.int .i64 v.num), .lst 1 (v.mem.map intE) false]
def placeB (l : List Int) (x : Int) : Int := findB (fun i => decide (l[i]? = some x)) l.length
theorem r67 (l : List Int) (hl : l.length ≤ maxLen) (x : Int) : Ret Try.prog 67 [.lst 1 (l.map intE) false, .v (.int .i64 x)] (.v (.int .i64 (placeB l x))) := by
  have hl' : l.length ≤ 9223372036854775807 := hl
  refine ret_of_body (fn := Try.f67) (c := Try.f67.body.getD .skip) hm hT (by kernel_rfl) Try.func67 (by kernel_rfl) (by kernel_rfl) (by kernel_rfl) (by kernel_rfl) ?_
  repeat' ((conv => whnf); first | refine And.intro (fun h => h) ?_ | refine dcond_t (by assumption) ?_ | refine dcond_f (by assumption) ?_ | (refine dcond_intro ?_ ?_ <;> intro h) | exact .refl | refine And.intro (by kernel_rfl) ?_ | refine And.intro ⟨fun h => h, fun h => h⟩ ?_ | (refine And.intro ?_ ?_; focus (simp; done)) | fail)
  refine ⟨Nat, fun i => ⟨[(1, .v (.int .i64 x)), (7, .lst 1 (l.map intE) false), (8, i64 (l.map intE).length), (9, i64 i)], []⟩, fun i => i ≤ l.length ∧ ∀ j, j < i → decide (l[j]? = some x) = false, fun i => l.length - i, [], ⟨0, ⟨Nat.zero_le _, by omega⟩, ?_⟩, ?_⟩
  · exact ⟨by repeat' ((conv => whnf); first | exact trivial | refine And.intro (by (conv => arg 1; whnf); first | (with_reducible exact .refl) | exact dle_int (wrap_succ (by omega)) | exact .refl) ?_), by repeat' ((conv => whnf); first | exact trivial | refine And.intro ?_ ?_ | exact .refl), rfl⟩
  · intro i ⟨hi, hall⟩
    repeat' ((conv => whnf); first | refine And.intro (fun h => h) ?_ | refine dcond_t (by assumption) ?_ | refine dcond_f (by assumption) ?_ | (refine dcond_intro ?_ ?_ <;> intro h) | exact .refl | refine And.intro (by kernel_rfl) ?_ | refine And.intro ⟨fun h => h, fun h => h⟩ ?_ | (refine And.intro ?_ ?_; focus (simp; done)) | fail)
    · have hlt : i < l.length := by simpa using h
      repeat' ((conv => whnf); first | refine And.intro (fun h => h) ?_ | refine dcond_t (by assumption) ?_ | refine dcond_f (by assumption) ?_ | (refine dcond_intro ?_ ?_ <;> intro h) | exact .refl | refine And.intro (by kernel_rfl) ?_ | refine And.intro ⟨fun h => h, fun h => h⟩ ?_ | refine ⟨_, _, And.intro ⟨rfl, get_map hlt⟩ ?_⟩ | (refine And.intro ?_ ?_; focus (simp; done)) | fail)
      · have h2 := h
        refine dle_int (findB_at hlt ?_ hall).symm
        simpa [hlt] using h2
      · have h2 := h
        conv => whnf
        refine ⟨i + 1, ⟨hlt, fun j hj => ?_⟩, by simp only []; omega, ?_⟩
        · rcases Nat.lt_succ_iff_lt_or_eq.1 hj with hj | rfl
          · exact hall j hj
          · simpa [hlt] using h2
        · exact ⟨by repeat' ((conv => whnf); first | exact trivial | refine And.intro (by (conv => arg 1; whnf); first | (with_reducible exact .refl) | exact dle_int (wrap_succ (by omega)) | exact .refl) ?_), by repeat' ((conv => whnf); first | exact trivial | refine And.intro ?_ ?_ | exact .refl), rfl⟩
    · have hge : ¬ i < l.length := by simpa using h
      conv => whnf
      refine dle_int (findB_none (fun j hj => hall j (by omega))).symm
def inB (l : List Int) (x : Int) : Bool := decide (0 ≤ placeB l x)
theorem r58 (l : List Int) (hl : l.length ≤ maxLen) (x : Int) : Ret Try.prog 58 [.lst 1 (l.map intE) false, .v (.int .i64 x)] (.v (.bool (inB l x))) := by
  refine ret_of_body (fn := Try.f58) (c := Try.f58.body.getD .skip) hm hT (by kernel_rfl) Try.func58 (by kernel_rfl) (by kernel_rfl) (by kernel_rfl) (by kernel_rfl) ?_
  repeat' ((conv => whnf); first | refine And.intro (fun h => h) ?_ | refine dcond_t (by assumption) ?_ | refine dcond_f (by assumption) ?_ | (refine dcond_intro ?_ ?_ <;> intro h) | exact .refl | refine And.intro (by kernel_rfl) ?_ | refine And.intro ⟨fun h => h, fun h => h⟩ ?_ | refine .inl ⟨_, _, DleAll_refl _, r67 _ hl _, ?_⟩ | refine ⟨_, _, DleAll_refl _, r67 _ hl _, ?_⟩ | refine ⟨_, _, DleAll_refl _, fun _ => r67 _ hl _, ?_⟩ | (refine And.intro ?_ ?_; focus (simp; done)) | fail)
theorem r66 (l : List Int) (hl : l.length ≤ maxLen) : Ret Try.prog 66 [.lst 1 (l.map intE) false] (.v (.bool (idsB l 16))) := by
  refine ret_of_body (fn := Try.f66) (c := Try.f66.body.getD .skip) hm hT (by kernel_rfl) Try.func66 (by kernel_rfl) (by kernel_rfl) (by kernel_rfl) (by kernel_rfl) ?_
  repeat' ((conv => whnf); first | refine And.intro (fun h => h) ?_ | refine dcond_t (by assumption) ?_ | refine dcond_f (by assumption) ?_ | (refine dcond_intro ?_ ?_ <;> intro h) | exact .refl | refine And.intro (by kernel_rfl) ?_ | refine And.intro ⟨fun h => h, fun h => h⟩ ?_ | refine .inl ⟨_, _, DleAll_refl _, r59 _ hl _, ?_⟩ | refine ⟨_, _, DleAll_refl _, r59 _ hl _, ?_⟩ | refine ⟨_, _, DleAll_refl _, fun _ => r59 _ hl _, ?_⟩ | (refine And.intro ?_ ?_; focus (simp; done)) | fail)
def viewB (v : View) : Bool := (decide (0 ≤ v.num) && decide (v.num ≤ 1099511627776)) && idsB v.mem 16
theorem r57 (v : View) (hl : v.mem.length ≤ maxLen) : Ret Try.prog 57 [.agg (viewE v)] (.v (.bool (viewB v))) := by
  refine ret_of_body (fn := Try.f57) (c := Try.f57.body.getD .skip) hm hT (by kernel_rfl) Try.func57 (by kernel_rfl) (by kernel_rfl) (by kernel_rfl) (by kernel_rfl) ?_
  repeat' ((conv => whnf); first | refine And.intro (fun h => h) ?_ | refine dcond_t (by assumption) ?_ | refine dcond_f (by assumption) ?_ | (refine dcond_intro ?_ ?_ <;> intro h) | exact .refl | refine And.intro (by kernel_rfl) ?_ | refine And.intro ⟨fun h => h, fun h => h⟩ ?_ | refine .inl ⟨_, _, DleAll_refl _, r66 _ hl, ?_⟩ | refine ⟨_, _, DleAll_refl _, r66 _ hl, ?_⟩ | refine ⟨_, _, DleAll_refl _, fun _ => r66 _ hl, ?_⟩ | (refine And.intro ?_ ?_; focus (simp; done)) | fail)
end Go.Proofs.Ytmfgjjnmfahcjaa
