/- The laws of this seat, part G14: contracts of the functions, plain laws. No conditions. -/
import Derived.Test.YthdpjinchanceaaF14
set_option linter.unusedSimpArgs false
set_option linter.unusedVariables false
namespace Go.Proofs.Ythdpjinchanceaa
open Go.Lift
def bigAt (d : List Rec) (i : Nat) : Bool := decide (100 < ((d.getD i zeroR).ref.ty.size : Int)) || decide (100 < ((d.getD i zeroR).ref.key.size : Int))
def smallB (d : List Rec) : Bool := allB (fun i => !bigAt d i) d.length && decide ((d.length : Int) ≤ 260)
theorem r8 (d : List Rec) (hl : d.length ≤ maxLen) : Ret Try.prog 8 [.lst 5 (d.map recE) false] (.v (.bool (smallB d))) := by
  have hl' : d.length ≤ 9223372036854775807 := hl
  refine ret_of_body (fn := Try.f8) (c := Try.f8.body.getD .skip) hm hT (by kernel_rfl) Try.func8 (by kernel_rfl) (by kernel_rfl) (by kernel_rfl) (by kernel_rfl) ?_
  repeat' ((conv => whnf); first | refine And.intro (fun h => h) ?_ | refine dcond_t (by assumption) ?_ | refine dcond_f (by assumption) ?_ | (refine dcond_intro ?_ ?_ <;> intro h) | exact .refl | refine And.intro (by kernel_rfl) ?_ | refine And.intro ⟨fun h => h, fun h => h⟩ ?_ | (refine And.intro ?_ ?_; focus (simp; done)) | fail)
  refine ⟨Nat, fun i => ⟨[(0, .lst 5 (d.map recE) false), (3, i64 i)], []⟩, fun i => i ≤ d.length ∧ ∀ j, j < i → (!bigAt d j) = true, fun i => d.length - i, [], ⟨0, ⟨Nat.zero_le _, by omega⟩, ?_⟩, ?_⟩
  · exact ⟨by repeat' ((conv => whnf); first | exact trivial | refine And.intro (by (conv => arg 1; whnf); first | (with_reducible exact .refl) | exact dle_int (wrap_succ (by omega)) | exact .refl) ?_), by repeat' ((conv => whnf); first | exact trivial | refine And.intro ?_ ?_ | exact .refl), rfl⟩
  · intro i ⟨hi, hall⟩
    repeat' ((conv => whnf); first | refine And.intro (fun h => h) ?_ | refine dcond_t (by assumption) ?_ | refine dcond_f (by assumption) ?_ | (refine dcond_intro ?_ ?_ <;> intro h) | exact .refl | refine And.intro (by kernel_rfl) ?_ | refine And.intro ⟨fun h => h, fun h => h⟩ ?_ | (refine And.intro ?_ ?_; focus (simp; done)) | fail)
    · have hlt : i < d.length := by simpa using h
      clear h
      have hg : d.getD i zeroR = d[i] := by simp [hlt]
      repeat' ((conv => whnf); first | refine And.intro (fun h => h) ?_ | refine dcond_t (by assumption) ?_ | refine dcond_f (by assumption) ?_ | (refine dcond_intro ?_ ?_ <;> intro h) | exact .refl | refine And.intro (by kernel_rfl) ?_ | refine And.intro ⟨fun h => h, fun h => h⟩ ?_ | refine ⟨_, _, And.intro ⟨rfl, get_map hlt⟩ ?_⟩ | refine ⟨i, recE (d[i]'hlt), And.intro ⟨⟨fun h => h, fun h => h⟩, fun hg => ⟨rfl, get_map hlt⟩⟩ ?_⟩ | (refine And.intro ?_ ?_; focus (simp; done)) | fail)
      · refine dle_bool ?_
        have : (!bigAt d i) = false := by simp only [bigAt, hg, h]; rfl
        rw [smallB, allB_false (p := fun i => !bigAt d i) hlt this, Bool.false_and]
      · conv => whnf
        refine ⟨i + 1, ⟨hlt, fun j hj => ?_⟩, by simp only []; omega, ?_⟩
        · rcases Nat.lt_succ_iff_lt_or_eq.1 hj with hj | rfl
          · exact hall j hj
          · simp only [bigAt, hg, h]; rfl
        · exact ⟨by repeat' ((conv => whnf); first | exact trivial | refine And.intro (by (conv => arg 1; whnf); first | (with_reducible exact .refl) | exact dle_int (wrap_succ (by omega)) | exact .refl) ?_), by repeat' ((conv => whnf); first | exact trivial | refine And.intro ?_ ?_ | exact .refl), rfl⟩
    · have hge : ¬ i < d.length := by simpa using h
      conv => whnf
      refine dle_bool ?_
      rw [smallB, allB_true.2 (fun j hj => hall j (by omega)), List.length_map]
      rfl
def fenceE (d : List Rec) (r : Ref) (m ep : Int) : Int :=
  bif !validB d || !refB r then 1
  else bif !(findR d r).2 || decide ((findR d r).1.mem = 0) then 6
  else bif !decide ((findR d r).1.mem = m) then 10
  else bif !decide ((findR d r).1.ep = ep) then 8
  else 0
theorem r16 (d : List Rec) (hl : d.length ≤ maxLen) (r : Ref) (m ep : Int) : Ret Try.prog 16 [.lst 5 (d.map recE) false, .agg [.v (.string r.ty), .v (.string r.key)], .v (.int .i64 m), .v (.int .i64 ep)] (.v (.int .i64 (fenceE d r m ep))) := by
  refine ret_of_body (fn := Try.f16) (c := Try.f16.body.getD .skip) hm hT (by kernel_rfl) Try.func16 (by kernel_rfl) (by kernel_rfl) (by kernel_rfl) (by kernel_rfl) ?_
  repeat' ((conv => whnf); first | refine And.intro (fun h => h) ?_ | refine dcond_t (by assumption) ?_ | refine dcond_f (by assumption) ?_ | (refine dcond_intro ?_ ?_ <;> intro h) | exact .refl | refine And.intro (by kernel_rfl) ?_ | refine And.intro ⟨fun h => h, fun h => h⟩ ?_ | refine ⟨_, _, DleAll_refl _, r10 _ hl _, ?_⟩ | refine ⟨_, _, DleAll_refl _, fun _ => r10 _ hl _, ?_⟩ | refine ⟨_, _, DleAll_refl _, r14 _ hl, ?_⟩ | refine ⟨_, _, DleAll_refl _, fun _ => r14 _ hl, ?_⟩ | refine ⟨_, _, DleAll_refl _, r31 _, ?_⟩ | refine ⟨_, _, DleAll_refl _, fun _ => r31 _, ?_⟩ | (refine And.intro ?_ ?_; focus (simp; done)) | fail)
  all_goals (conv => whnf)
  all_goals refine dle_int ?_
  all_goals simp only [fenceE, *]
  all_goals rfl
def V0 : View := ⟨0, [3, 5]⟩
def R0 : Ref := ⟨⟨#[65, 99, 99, 111, 117, 110, 116]⟩, ⟨#[97]⟩⟩
theorem r7 : Ret Try.prog 7 [] (.v (.bool true)) := by
  refine ret_of_body (fn := Try.f7) (c := Try.f7.body.getD .skip) hm hT (by kernel_rfl) Try.func7 (by kernel_rfl) (by kernel_rfl) (by kernel_rfl) (by kernel_rfl) ?_
  repeat' ((conv => whnf); first | refine And.intro (fun h => h) ?_ | refine dcond_t (by assumption) ?_ | refine dcond_f (by assumption) ?_ | (refine dcond_intro ?_ ?_ <;> intro h) | exact .refl | refine And.intro (by kernel_rfl) ?_ | refine And.intro ⟨fun h => h, fun h => h⟩ ?_ | (refine And.intro ?_ ?_; focus (simp; done)) | fail)
  all_goals (conv => whnf)
  refine ⟨[.lst 5 (([] : List Rec).map recE) false, .agg (viewE V0), .agg (cmdE ⟨1, R0, 3, 0⟩)], _, ⟨.nl, .refl, .refl, trivial⟩, r9 [] (by decide +kernel) V0 (by decide +kernel) ⟨1, R0, 3, 0⟩, ?_⟩
  repeat' ((conv => whnf); first | refine And.intro (fun h => h) ?_ | refine dcond_t (by assumption) ?_ | refine dcond_f (by assumption) ?_ | (refine dcond_intro ?_ ?_ <;> intro h) | exact .refl | refine And.intro (by kernel_rfl) ?_ | refine And.intro ⟨fun h => h, fun h => h⟩ ?_ | refine ⟨[.lst 5 (List.map recE _) false, .agg (viewE V0), .agg (cmdE ⟨_, R0, _, _⟩)], _, ⟨.refl, .refl, .refl, trivial⟩, r9 _ (by decide +kernel) V0 (by decide +kernel) ⟨_, R0, _, _⟩, ?_⟩ | refine ⟨_, _, DleAll_refl _, r10 _ (by decide +kernel) R0, ?_⟩ | refine ⟨_, _, DleAll_refl _, fun _ => r10 _ (by decide +kernel) R0, ?_⟩ | refine ⟨_, _, DleAll_refl _, r16 _ (by decide +kernel) R0 _ _, ?_⟩ | refine ⟨_, _, DleAll_refl _, fun _ => r16 _ (by decide +kernel) R0 _ _, ?_⟩ | (refine And.intro ?_ ?_; focus (simp; done)) | fail)
  all_goals (conv => whnf)
  refine dle_bool ?_
  kernel_rfl
end Go.Proofs.Ythdpjinchanceaa
