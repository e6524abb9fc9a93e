/- The laws of this seat, part V14: contracts of the functions, plain laws. No conditions. -/
import Derived.Test.YthdpjinchanceaaC14
set_option linter.unusedSimpArgs false
set_option linter.unusedVariables false
namespace Go.Proofs.Ythdpjinchanceaa
open Go.Lift
def recOk (x : Rec) : Bool := refB x.ref && (numB x.ep && (!(!decide (x.mem = 0) && !identB x.mem) && !(!decide (x.tgt = 0) && (decide (x.mem = 0) || !identB x.tgt || decide (x.tgt = x.mem)))))
def zeroR : Rec := ⟨⟨⟨#[]⟩, ⟨#[]⟩⟩, 0, 0, 0⟩
def okAtR (d : List Rec) (i : Nat) : Bool := recOk (d.getD i zeroR) && !(decide (0 < (i : Int)) && !lessB (d.getD (i - 1) zeroR).ref (d.getD i zeroR).ref)
def validB (d : List Rec) : Bool := !decide (200 < (d.length : Int)) && allB (okAtR d) d.length
theorem r14 (d : List Rec) (hl : d.length ≤ maxLen) : Ret Try.prog 14 [.lst 5 (d.map recE) false] (.v (.bool (validB d))) := by
  have hl' : d.length ≤ 9223372036854775807 := hl
  refine ret_of_body (fn := Try.f14) (c := Try.f14.body.getD .skip) hm hT (by kernel_rfl) Try.func14 (by kernel_rfl) (by kernel_rfl) (by kernel_rfl) (by kernel_rfl) ?_
  repeat' ((conv => whnf); first | refine And.intro (fun h => h) ?_ | refine dcond_t (by assumption) ?_ | refine dcond_f (by assumption) ?_ | (refine dcond_intro ?_ ?_ <;> intro h) | exact .refl | refine And.intro (by kernel_rfl) ?_ | refine And.intro ⟨fun h => h, fun h => h⟩ ?_ | (refine And.intro ?_ ?_; focus (simp; done)) | fail)
  · refine dle_bool ?_
    simp only [List.length_map] at h
    simp only [validB, h]
    rfl
  · have h0 := h
    simp only [List.length_map] at h0
    clear h
    conv => whnf
    refine ⟨Nat, fun i => ⟨[(0, .lst 5 (d.map recE) false), (8, .lst 5 (d.map recE) false), (9, i64 (d.map recE).length), (10, i64 i)], []⟩, fun i => i ≤ d.length ∧ ∀ j, j < i → okAtR d j = true, fun i => d.length - i, [], ⟨0, ⟨Nat.zero_le _, by omega⟩, ?_⟩, ?_⟩
    · exact ⟨by repeat' ((conv => whnf); first | exact trivial | refine And.intro (by (conv => arg 1; whnf); first | (with_reducible exact .refl) | exact dle_int (wrap_succ (by omega)) | exact .refl) ?_), by repeat' ((conv => whnf); first | exact trivial | refine And.intro ?_ ?_ | exact .refl), rfl⟩
    · intro i ⟨hi, hall⟩
      repeat' ((conv => whnf); first | refine And.intro (fun h => h) ?_ | refine dcond_t (by assumption) ?_ | refine dcond_f (by assumption) ?_ | (refine dcond_intro ?_ ?_ <;> intro h) | exact .refl | refine And.intro (by kernel_rfl) ?_ | refine And.intro ⟨fun h => h, fun h => h⟩ ?_ | (refine And.intro ?_ ?_; focus (simp; done)) | fail)
      · have hlt : i < d.length := by simpa using h
        have h1 := h
        clear h
        have hg : d.getD i zeroR = d[i] := by simp [hlt]
        have bad : recOk d[i] = false → false = validB d := fun hr => by
          rw [validB, allB_false hlt (by simp only [okAtR, hg, hr, Bool.false_and]), Bool.and_false]
        repeat' ((conv => whnf); first | refine And.intro (fun h => h) ?_ | refine dcond_t (by assumption) ?_ | refine dcond_f (by assumption) ?_ | (refine dcond_intro ?_ ?_ <;> intro h) | exact .refl | refine And.intro (by kernel_rfl) ?_ | refine And.intro ⟨fun h => h, fun h => h⟩ ?_ | refine ⟨_, _, And.intro ⟨rfl, get_map hlt⟩ ?_⟩ | refine ⟨_, _, DleAll_refl _, r31 _, ?_⟩ | refine ⟨_, _, DleAll_refl _, fun _ => r31 _, ?_⟩ | refine ⟨_, _, DleAll_refl _, r32 _, ?_⟩ | refine ⟨_, _, DleAll_refl _, fun _ => r32 _, ?_⟩ | refine ⟨_, _, DleAll_refl _, r33 _, ?_⟩ | refine ⟨_, _, DleAll_refl _, fun _ => r33 _, ?_⟩ | refine ⟨_, _, DleAll_refl _, r26 _ _, ?_⟩ | refine ⟨_, _, DleAll_refl _, fun _ => r26 _ _, ?_⟩ | refine ⟨i - 1, recE (d[i - 1]'(by omega)), And.intro ⟨⟨fun h => h, fun h => h⟩, fun hg => ⟨wrap_pred (by omega) hg, get_map (by omega)⟩⟩ ?_⟩ | (refine And.intro ?_ ?_; focus (simp; done)) | fail)
        · refine dle_bool (bad ?_)
          have h2 : (!refB d[i].ref) = true := h
          simp at h2
          simp [recOk, h2]
        · refine dle_bool (bad ?_)
          simp at h
          simp [recOk, h]
        · refine dle_bool (bad ?_)
          simp only [recOk, h]
          simp
        · refine dle_bool (bad ?_)
          simp only [recOk, h]
          simp
        · refine dle_bool ?_
          rw [validB, allB_false hlt (i := i) ?_, Bool.and_false]
          have hg2 : d.getD (i - 1) zeroR = d[i - 1] := by simp [show i - 1 < d.length by omega]
          simp only [okAtR, hg, hg2, h]
          simp
        · conv => whnf
          refine ⟨i + 1, ⟨hlt, fun j hj => ?_⟩, by simp only []; omega, ?_⟩
          · rcases Nat.lt_succ_iff_lt_or_eq.1 hj with hj | rfl
            · exact hall j hj
            · rename_i e1 e2 e3 e4
              have hg2 : d.getD (j - 1) zeroR = d[j - 1] := by simp [show j - 1 < d.length by omega]
              have e1 : (!refB d[j].ref) = false := e1
              simp at e1 e2
              simp only [okAtR, hg, hg2, h, recOk, e1, e2, e3, e4]
              rfl
          · exact ⟨by repeat' ((conv => whnf); first | exact trivial | refine And.intro (by (conv => arg 1; whnf); first | (with_reducible exact .refl) | exact dle_int (wrap_succ (by omega)) | exact .refl) ?_), by repeat' ((conv => whnf); first | exact trivial | refine And.intro ?_ ?_ | exact .refl), rfl⟩
      · have hge : ¬ i < d.length := by simpa using h
        conv => whnf
        refine dle_bool ?_
        rw [validB, h0, allB_true.2 (fun j hj => hall j (by omega))]
        rfl
end Go.Proofs.Ythdpjinchanceaa
