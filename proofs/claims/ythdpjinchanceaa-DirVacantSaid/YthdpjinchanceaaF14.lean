/- The laws of this seat, part F14: contracts of the functions, plain laws. No conditions. -/
import Derived.Test.YthdpjinchanceaaE14
set_option linter.unusedSimpArgs false
set_option linter.unusedVariables false
namespace Go.Proofs.Ythdpjinchanceaa
open Go.Lift
def dropAt (d : List Rec) (r : Ref) : Nat := bif (findR d r).2 then kOf d r + 1 else kOf d r
def applyR (d : List Rec) (v : View) (c : Cmd) : List Rec × Int :=
  bif !validB d || !viewB v || !cmdB c then ([], 1)
  else bif !decide (checkE d.length v c (findR d c.ref).1 (findR d c.ref).2 = 0) then ([], checkE d.length v c (findR d c.ref).1 (findR d c.ref).2)
  else (d.take (kOf d c.ref) ++ [chgR (findR d c.ref).1 c] ++ d.drop (dropAt d c.ref), 0)
theorem fits {n : Nat} (h : n ≤ 402) : fitsIn tt 36 n := by
  have e : (tinfo tt 36).bytes = 56 := by kernel_rfl
  refine ⟨?_, ?_⟩
  · rw [e]; omega
  · simp only [maxLen]; omega
set_option maxHeartbeats 1000000 in
theorem r9 (d : List Rec) (hl : d.length ≤ maxLen) (v : View) (hv : v.mem.length ≤ maxLen) (c : Cmd) : Ret Try.prog 9 [.lst 5 (d.map recE) false, .agg (viewE v), .agg (cmdE c)] (.tup [.lst 5 ((applyR d v c).1.map recE) false, .v (.int .i64 (applyR d v c).2)]) := by
  have hl' : d.length ≤ 9223372036854775807 := hl
  refine ret_of_body (fn := Try.f9) (c := Try.f9.body.getD .skip) hm hT (by kernel_rfl) Try.func9 (by kernel_rfl) (by kernel_rfl) (by kernel_rfl) (by kernel_rfl) ?_
  repeat' ((conv => whnf); first | refine And.intro (fun h => h) ?_ | refine dcond_t (by assumption) ?_ | refine dcond_f (by assumption) ?_ | (refine dcond_intro ?_ ?_ <;> intro h) | exact .refl | refine And.intro (by kernel_rfl) ?_ | refine And.intro ⟨fun h => h, fun h => h⟩ ?_ | refine ⟨_, _, DleAll_refl _, r14 _ hl, ?_⟩ | refine ⟨_, _, DleAll_refl _, fun _ => r14 _ hl, ?_⟩ | refine ⟨_, _, DleAll_refl _, r23 _ hv, ?_⟩ | refine ⟨_, _, DleAll_refl _, fun _ => r23 _ hv, ?_⟩ | refine ⟨_, _, DleAll_refl _, r24 _, ?_⟩ | refine ⟨_, _, DleAll_refl _, fun _ => r24 _, ?_⟩ | refine ⟨_, _, DleAll_refl _, r10 _ hl _, ?_⟩ | refine ⟨_, _, DleAll_refl _, fun _ => r10 _ hl _, ?_⟩ | refine ⟨_, _, DleAll_refl _, r25 _ _ hv _ _ _, ?_⟩ | refine ⟨_, _, DleAll_refl _, fun _ => r25 _ _ hv _ _ _, ?_⟩ | (refine And.intro ?_ ?_; focus (simp; done)) | fail)
  · simp only [applyR, h, cond_true]
    exact dle_tup2 .nl .refl
  · rename_i h0
    simp only [applyR, h, h0, cond_true, cond_false]
    exact dle_tup2 .nl .refl
  · rename_i h0
    have hval : validB d = true := by
      cases hq : validB d with
      | true => rfl
      | false => simp [hq] at h0
    have hlen := valid_len hval
    have hres : applyR d v c = (d.take (kOf d c.ref) ++ [chgR (findR d c.ref).1 c] ++ d.drop (dropAt d c.ref), 0) := by
      simp only [applyR, h, h0, cond_false]
    rw [hres]
    clear h0 h hres
    conv => whnf
    refine ⟨Nat, fun i => ⟨[(0, .lst 5 (d.map recE) false), (5, .lp 1 0), (8, .lp 2 0), (9, .v (.bool (findR d c.ref).2)), (11, i64 i)], [.cells 25 (viewE v), .cells 29 (cmdE c), .cells 36 (recE (findR d c.ref).1)]⟩, fun i => i ≤ d.length ∧ ∀ j (hj : j < d.length), j < i → lessB d[j].ref c.ref = true, fun i => d.length - i, [], ⟨0, ⟨Nat.zero_le _, by omega⟩, ?_⟩, ?_⟩
    · exact ⟨by repeat' ((conv => whnf); first | exact trivial | refine And.intro (by (conv => arg 1; whnf); first | (with_reducible exact .refl) | exact dle_int (wrap_succ (by omega)) | exact .refl) ?_), by repeat' ((conv => whnf); first | exact trivial | refine And.intro ?_ ?_ | exact .refl), rfl⟩
    · intro i ⟨hi, hall⟩
      repeat' ((conv => whnf); first | refine And.intro (fun h => h) ?_ | refine dcond_t (by assumption) ?_ | refine dcond_f (by assumption) ?_ | (refine dcond_intro ?_ ?_ <;> intro h) | exact .refl | refine And.intro (by kernel_rfl) ?_ | refine And.intro ⟨fun h => h, fun h => h⟩ ?_ | refine ⟨_, _, DleAll_refl _, r26 _ _, ?_⟩ | refine ⟨_, _, DleAll_refl _, fun _ => r26 _ _, ?_⟩ | refine ⟨i, recE (d.getD i zeroR), And.intro ⟨⟨fun h => h, fun h => h⟩, fun hg => ⟨rfl, ?gi⟩⟩ ?_⟩ | (refine And.intro ?_ ?_; focus (simp; done)) | fail)
      case gi =>
        have hlt : i < d.length := by simpa using hg
        simp [hlt]
      · conv => whnf
        have hlt : i < d.length := by
          simp only [Bool.and_eq_true] at h
          simpa using h.1
        have hg : d.getD i zeroR = d[i] := by simp [hlt]
        refine ⟨i + 1, ⟨hlt, fun j hj hji => ?_⟩, by simp only []; omega, ?_⟩
        · rcases Nat.lt_succ_iff_lt_or_eq.1 hji with hji | rfl
          · exact hall j hj hji
          · simp only [hg, Bool.and_eq_true] at h
            exact h.2
        · exact ⟨by repeat' ((conv => whnf); first | exact trivial | refine And.intro (by (conv => arg 1; whnf); first | (with_reducible exact .refl) | exact dle_int (wrap_succ (by omega)) | exact .refl) ?_), by repeat' ((conv => whnf); first | exact trivial | refine And.intro ?_ ?_ | exact .refl), rfl⟩
      · have hk : kOf d c.ref = i := by
          by_cases hlt : i < d.length
          · refine (List.findIdx_eq hlt).2 ⟨?_, fun j hj => by simp [hall j (by omega) hj]⟩
            have hg : d.getD i zeroR = d[i] := by simp [hlt]
            simp [hlt] at h
            simp [h]
          · have : i = d.length := by omega
            subst this
            refine List.findIdx_eq_length.2 (fun x hx => ?_)
            obtain ⟨j, hj, rfl⟩ := List.getElem_of_mem hx
            simp [hall j hj (by omega)]
        clear h
        have hwl : IntKind.i64.wrap (((d.map recE).length : Int) + 1) = ((d.length + 1 : Nat) : Int) := by
          rw [List.length_map]
          exact wrap_succ (by omega)
        have hby : (d.length + 1) * 56 ≤ 140737488355328 := by omega
        have hmx : d.length + 1 ≤ maxLen := by simp only [maxLen]; omega
        have hil : i ≤ (d.map recE).length := by simpa using hi
        have hfi : (findR d c.ref).2 = true → i + 1 ≤ (d.map recE).length := by
          intro hf
          unfold findR at hf
          split at hf
          · rename_i i0 h0
            have := kOf_found hval h0
            obtain ⟨h1, _⟩ := idx_some h0
            simp only [List.length_map]
            omega
          · cases hf
        have hf1 : fitsIn tt 36 (((((d.map recE).take i).drop 0).take (List.replicate i (tinfo tt 36).zero).length ++ (List.replicate i (tinfo tt 36).zero).drop (((d.map recE).take i).drop 0).length).length + 1) := by
          exact fits (by simp; omega)
        have hf2 : ∀ l, fitsIn tt 36 (((((d.map recE).take i).drop 0).take (List.replicate i (tinfo tt 36).zero).length ++ (List.replicate i (tinfo tt 36).zero).drop (((d.map recE).take i).drop 0).length ++ [recE (chgR (findR d c.ref).1 c)]).length + ((d.map recE).drop l).length) := by
          intro l
          exact fits (by simp; omega)
        repeat' ((conv => whnf); first | refine And.intro (fun h => h) ?_ | refine dcond_t (by assumption) ?_ | refine dcond_f (by assumption) ?_ | (refine dcond_intro ?_ ?_ <;> intro h) | exact .refl | refine And.intro (by kernel_rfl) ?_ | refine And.intro ⟨fun h => h, fun h => h⟩ ?_ | refine ⟨i, d.length + 1, rfl, hwl, by omega, hby, hmx, ?_⟩ | refine ⟨0, i, And.intro ⟨rfl, ⟨_, rfl⟩, Nat.zero_le _, hil⟩ ?_⟩ | refine ⟨_, _, DleAll_refl _, r27 _ _, ?_⟩ | refine ⟨_, _, DleAll_refl _, fun _ => r27 _ _, ?_⟩ | refine And.intro hf1 ?_ | (refine And.intro ?_ ?_; focus (simp; done)) | fail)
        · have hf := h
          clear h
          conv => whnf
          refine ⟨i + 1, And.intro ⟨⟨.i64, congrArg (fun z => DV.v (.int .i64 z)) (wrap_succ (by omega))⟩, hfi hf⟩ ?_⟩
          repeat' ((conv => whnf); first | refine And.intro (fun h => h) ?_ | refine dcond_t (by assumption) ?_ | refine dcond_f (by assumption) ?_ | (refine dcond_intro ?_ ?_ <;> intro h) | exact .refl | refine And.intro (by kernel_rfl) ?_ | refine And.intro ⟨fun h => h, fun h => h⟩ ?_ | refine And.intro (hf2 _) ?_ | (refine And.intro ?_ ?_; focus (simp; done)) | fail)
          refine dle_tup2 (dle_lst ?_) .refl
          have : dropAt d c.ref = i + 1 := by simp [dropAt, hf, hk]
          rw [this, hk]
          simp
          rw [show i - min i d.length = 0 by omega, List.take_take, Nat.min_self]
          rfl
        · have hf := h
          clear h
          conv => whnf
          refine ⟨i, And.intro ⟨⟨_, rfl⟩, hil⟩ ?_⟩
          repeat' ((conv => whnf); first | refine And.intro (fun h => h) ?_ | refine dcond_t (by assumption) ?_ | refine dcond_f (by assumption) ?_ | (refine dcond_intro ?_ ?_ <;> intro h) | exact .refl | refine And.intro (by kernel_rfl) ?_ | refine And.intro ⟨fun h => h, fun h => h⟩ ?_ | refine And.intro (hf2 _) ?_ | (refine And.intro ?_ ?_; focus (simp; done)) | fail)
          refine dle_tup2 (dle_lst ?_) .refl
          have : dropAt d c.ref = i := by simp [dropAt, hf, hk]
          rw [this, hk]
          simp
          rw [show i - min i d.length = 0 by omega, List.take_take, Nat.min_self]
          rfl
end Go.Proofs.Ythdpjinchanceaa
