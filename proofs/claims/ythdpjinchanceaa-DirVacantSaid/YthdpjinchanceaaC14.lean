/- The laws of this seat, part C14: contracts of the functions, plain laws. No conditions. -/
import Derived.Test.YthdpjinchanceaaB14
set_option linter.unusedSimpArgs false
set_option linter.unusedVariables false
namespace Go.Proofs.Ythdpjinchanceaa
open Go.Lift
def cmdB (c : Cmd) : Bool := !(decide (c.kind < 1) || decide (5 < c.kind) || !refB c.ref) && (!((decide (c.kind = 1) || decide (c.kind = 3)) && !identB c.mem || !(decide (c.kind = 1) || decide (c.kind = 3)) && !decide (c.mem = 0)) && (decide (c.kind = 1) && decide (c.ep = 0) || !decide (c.kind = 1) && numB c.ep))
theorem r24 (c : Cmd) : Ret Try.prog 24 [.agg (cmdE c)] (.v (.bool (cmdB c))) := by
  refine ret_of_body (fn := Try.f24) (c := Try.f24.body.getD .skip) hm hT (by kernel_rfl) Try.func24 (by kernel_rfl) (by kernel_rfl) (by kernel_rfl) (by kernel_rfl) ?_
  repeat' ((conv => whnf); first | refine And.intro (fun h => h) ?_ | refine dcond_t (by assumption) ?_ | refine dcond_f (by assumption) ?_ | (refine dcond_intro ?_ ?_ <;> intro h) | exact .refl | refine And.intro (by kernel_rfl) ?_ | refine And.intro ⟨fun h => h, fun h => h⟩ ?_ | refine ⟨_, _, DleAll_refl _, r31 ⟨_, _⟩, ?_⟩ | refine ⟨_, _, DleAll_refl _, fun _ => r31 ⟨_, _⟩, ?_⟩ | refine ⟨_, _, DleAll_refl _, r32 _, ?_⟩ | refine ⟨_, _, DleAll_refl _, fun _ => r32 _, ?_⟩ | refine ⟨_, _, DleAll_refl _, r33 _, ?_⟩ | refine ⟨_, _, DleAll_refl _, fun _ => r33 _, ?_⟩ | (refine And.intro ?_ ?_; focus (simp; done)) | fail)
  all_goals (conv => whnf)
  all_goals refine dle_bool ?_
  all_goals simp only [cmdB, *]
  all_goals rfl
def vacB (r : Rec) (found : Bool) : Bool := !found || decide (r.mem = 0)
def checkE (n : Nat) (v : View) (c : Cmd) (r : Rec) (found : Bool) : Int :=
  bif !decide (c.mem = 0) && !inB v.mem c.mem || !decide (c.kind = 1) && (!found || decide (r.mem = 0)) then 6
  else bif decide (c.kind = 1) && !(!found || decide (r.mem = 0)) then 7
  else bif !decide (c.kind = 1) && !decide (r.ep = c.ep) then 8
  else bif decide (c.kind = 3) && (!decide (r.tgt = 0) || decide (r.mem = c.mem)) then 11
  else bif (decide (c.kind = 4) || decide (c.kind = 5)) && decide (r.tgt = 0) then 11
  else bif decide (c.kind = 4) && !inB v.mem r.tgt then 11
  else bif (decide (c.kind = 1) || decide (c.kind = 4)) && decide (r.ep = 1099511627776) then 5
  else bif !found && decide ((n : Int) = 200) then 5
  else 0
theorem r25 (d : List Rec) (v : View) (hv : v.mem.length ≤ maxLen) (c : Cmd) (r : Rec) (found : Bool) : Ret Try.prog 25 [.lst 5 (d.map recE) false, .agg (viewE v), .agg (cmdE c), .agg (recE r), .v (.bool found)] (.v (.int .i64 (checkE d.length v c r found))) := by
  refine ret_of_body (fn := Try.f25) (c := Try.f25.body.getD .skip) hm hT (by kernel_rfl) Try.func25 (by kernel_rfl) (by kernel_rfl) (by kernel_rfl) (by kernel_rfl) ?_
  repeat' ((conv => whnf); first | refine And.intro (fun h => h) ?_ | refine dcond_t (by assumption) ?_ | refine dcond_f (by assumption) ?_ | (refine dcond_intro ?_ ?_ <;> intro h) | exact .refl | refine And.intro (by kernel_rfl) ?_ | refine And.intro ⟨fun h => h, fun h => h⟩ ?_ | refine ⟨_, _, DleAll_refl _, r30 _ hv _, ?_⟩ | refine ⟨_, _, DleAll_refl _, fun _ => r30 _ hv _, ?_⟩ | (refine And.intro ?_ ?_; focus (simp; done)) | fail)
  all_goals (conv => whnf)
  all_goals refine dle_int ?_
  all_goals (try simp only [List.length_map] at *)
  all_goals simp only [checkE, *]
  all_goals rfl
def chgR (r : Rec) (c : Cmd) : Rec :=
  bif decide (c.kind = 1) then ⟨c.ref, c.mem, IntKind.i64.wrap (r.ep + 1), 0⟩
  else bif decide (c.kind = 2) then ⟨c.ref, 0, r.ep, 0⟩
  else bif decide (c.kind = 3) then ⟨c.ref, r.mem, r.ep, c.mem⟩
  else bif decide (c.kind = 4) then ⟨c.ref, r.tgt, IntKind.i64.wrap (r.ep + 1), 0⟩
  else bif decide (c.kind = 5) then ⟨c.ref, r.mem, r.ep, 0⟩
  else ⟨c.ref, r.mem, r.ep, r.tgt⟩
theorem r27 (r : Rec) (c : Cmd) : Ret Try.prog 27 [.agg (recE r), .agg (cmdE c)] (.agg (recE (chgR r c))) := by
  refine ret_of_body (fn := Try.f27) (c := Try.f27.body.getD .skip) hm hT (by kernel_rfl) Try.func27 (by kernel_rfl) (by kernel_rfl) (by kernel_rfl) (by kernel_rfl) ?_
  repeat' ((conv => whnf); first | refine And.intro (fun h => h) ?_ | refine dcond_t (by assumption) ?_ | refine dcond_f (by assumption) ?_ | (refine dcond_intro ?_ ?_ <;> intro h) | exact .refl | refine And.intro (by kernel_rfl) ?_ | refine And.intro ⟨fun h => h, fun h => h⟩ ?_ | (refine And.intro ?_ ?_; focus (simp; done)) | fail)
  all_goals (conv => whnf)
  all_goals simp only [chgR, *]
  all_goals exact .refl
def findR (d : List Rec) (r : Ref) : Rec × Bool := match idxO d r with
  | some i => (d.getD i ⟨⟨⟨#[]⟩, ⟨#[]⟩⟩, 0, 0, 0⟩, true)
  | none => (⟨⟨⟨#[]⟩, ⟨#[]⟩⟩, 0, 0, 0⟩, false)
theorem r10 (d : List Rec) (hl : d.length ≤ maxLen) (r : Ref) : Ret Try.prog 10 [.lst 5 (d.map recE) false, .agg [.v (.string r.ty), .v (.string r.key)]] (.tup [.agg (recE (findR d r).1), .v (.bool (findR d r).2)]) := by
  have h28 := r28 d hl r
  cases hi : idxO d r with
  | none =>
    have e1 : findR d r = (⟨⟨⟨#[]⟩, ⟨#[]⟩⟩, 0, 0, 0⟩, false) := by simp [findR, hi]
    rw [e1]
    simp only [idxB, hi] at h28
    refine ret_of_body (fn := Try.f10) (c := Try.f10.body.getD .skip) hm hT (by kernel_rfl) Try.func10 (by kernel_rfl) (by kernel_rfl) (by kernel_rfl) (by kernel_rfl) ?_
    repeat' ((conv => whnf); first | refine And.intro (fun h => h) ?_ | refine dcond_t (by assumption) ?_ | refine dcond_f (by assumption) ?_ | (refine dcond_intro ?_ ?_ <;> intro h) | exact .refl | refine And.intro (by kernel_rfl) ?_ | refine And.intro ⟨fun h => h, fun h => h⟩ ?_ | refine ⟨_, _, DleAll_refl _, h28, ?_⟩ | refine ⟨_, _, DleAll_refl _, fun _ => h28, ?_⟩ | (refine And.intro ?_ ?_; focus (simp; done)) | fail)
  | some i =>
    have hlt : i < d.length := by
      obtain ⟨h, _⟩ := List.findIdx?_eq_some_iff_getElem.1 hi
      exact h
    have e1 : findR d r = (d[i], true) := by simp [findR, hi, hlt]
    rw [e1]
    simp only [idxB, hi] at h28
    refine ret_of_body (fn := Try.f10) (c := Try.f10.body.getD .skip) hm hT (by kernel_rfl) Try.func10 (by kernel_rfl) (by kernel_rfl) (by kernel_rfl) (by kernel_rfl) ?_
    repeat' ((conv => whnf); first | refine And.intro (fun h => h) ?_ | refine dcond_t (by assumption) ?_ | refine dcond_f (by assumption) ?_ | (refine dcond_intro ?_ ?_ <;> intro h) | exact .refl | refine And.intro (by kernel_rfl) ?_ | refine And.intro ⟨fun h => h, fun h => h⟩ ?_ | refine ⟨_, _, DleAll_refl _, h28, ?_⟩ | refine ⟨_, _, DleAll_refl _, fun _ => h28, ?_⟩ | refine ⟨_, _, And.intro ⟨rfl, get_map hlt⟩ ?_⟩ | (refine And.intro ?_ ?_; focus (simp; done)) | fail)
end Go.Proofs.Ythdpjinchanceaa
