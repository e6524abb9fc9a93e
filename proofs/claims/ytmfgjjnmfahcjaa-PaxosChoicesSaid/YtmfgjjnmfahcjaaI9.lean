/- The laws of this seat, part I9: contracts of the functions, plain laws. No conditions. -/
import Derived.Test.YtmfgjjnmfahcjaaH9
set_option linter.unusedSimpArgs false
set_option linter.unusedVariables false
namespace Go.Proofs.Ytmfgjjnmfahcjaa
open Go.Lift
def majB (n : Int) : Int := bif !(decide (1 ≤ n) && decide (n ≤ 16)) then 0 else IntKind.i64.wrap (IntKind.i64.wrap (n.tdiv 2) + 1)
theorem r47 (n : Int) : Ret Try.prog 47 [.v (.int .i64 n)] (.v (.int .i64 (majB n))) := by
  refine ret_of_body (fn := Try.f47) (c := Try.f47.body.getD .skip) hm hT (by kernel_rfl) Try.func47 (by kernel_rfl) (by kernel_rfl) (by kernel_rfl) (by kernel_rfl) ?_
  repeat' ((conv => whnf); first | refine And.intro (fun h => h) ?_ | refine dcond_t (by assumption) ?_ | refine dcond_f (by assumption) ?_ | (refine dcond_intro ?_ ?_ <;> intro h) | exact .refl | refine And.intro (by kernel_rfl) ?_ | refine And.intro ⟨fun h => h, fun h => h⟩ ?_ | refine .inl ⟨_, _, DleAll_refl _, r64 _, ?_⟩ | refine ⟨_, _, DleAll_refl _, r64 _, ?_⟩ | refine ⟨_, _, DleAll_refl _, fun _ => r64 _, ?_⟩ | (refine And.intro ?_ ?_; focus (simp; done)) | fail)
  all_goals (conv => whnf)
  all_goals refine dle_int ?_
  all_goals simp only [majB, h, cond_true, cond_false]
def fastB (n : Int) : Int := bif !(decide (1 ≤ n) && decide (n ≤ 16)) then 0 else IntKind.i64.wrap (n - IntKind.i64.wrap ((IntKind.i64.wrap (n - 1)).tdiv 4))
theorem r50 (n : Int) : Ret Try.prog 50 [.v (.int .i64 n)] (.v (.int .i64 (fastB n))) := by
  refine ret_of_body (fn := Try.f50) (c := Try.f50.body.getD .skip) hm hT (by kernel_rfl) Try.func50 (by kernel_rfl) (by kernel_rfl) (by kernel_rfl) (by kernel_rfl) ?_
  repeat' ((conv => whnf); first | refine And.intro (fun h => h) ?_ | refine dcond_t (by assumption) ?_ | refine dcond_f (by assumption) ?_ | (refine dcond_intro ?_ ?_ <;> intro h) | exact .refl | refine And.intro (by kernel_rfl) ?_ | refine And.intro ⟨fun h => h, fun h => h⟩ ?_ | refine .inl ⟨_, _, DleAll_refl _, r64 _, ?_⟩ | refine ⟨_, _, DleAll_refl _, r64 _, ?_⟩ | refine ⟨_, _, DleAll_refl _, fun _ => r64 _, ?_⟩ | (refine And.intro ?_ ?_; focus (simp; done)) | fail)
  all_goals (conv => whnf)
  all_goals refine dle_int ?_
  all_goals simp only [fastB, h, cond_true, cond_false]
def rpt0 : Rpt := ⟨0, 0, []⟩
def prevM (l : List Rpt) (i : Nat) : Int := (0 :: l.map (·.mem)).getD i 0
def okRep (v : View) (l : List Rpt) (i : Nat) : Bool :=
  !(decide ((l.getD i rpt0).mem ≤ prevM l i) || !inB v.mem (l.getD i rpt0).mem) &&
    (decide ((l.getD i rpt0).rank = -1) && decide (((l.getD i rpt0).cut.length : Int) = 0) ||
      (decide ((l.getD i rpt0).rank = 0) || usableB (l.getD i rpt0).rank) && decide ((nextR v (l.getD i rpt0).cut).2 = 0))
def repsB (v : View) (l : List Rpt) : Bool := viewB v && allB (okRep v l) l.length
theorem r33 (v : View) (hv : v.mem.length ≤ 500000) (l : List Rpt) (hl : l.length ≤ maxLen) (hc : ∀ r ∈ l, r.cut.length ≤ 500000) : Ret Try.prog 33 [.agg (viewE v), .lst 3 (l.map rptE) false] (.v (.bool (repsB v l))) := by
  have hl' : l.length ≤ 9223372036854775807 := hl
  have h1 : v.mem.length ≤ maxLen := Nat.le_trans hv (by decide)
  refine ret_of_body (fn := Try.f33) (c := Try.f33.body.getD .skip) hm hT (by kernel_rfl) Try.func33 (by kernel_rfl) (by kernel_rfl) (by kernel_rfl) (by kernel_rfl) ?_
  repeat' ((conv => whnf); first | refine And.intro (fun h => h) ?_ | refine dcond_t (by assumption) ?_ | refine dcond_f (by assumption) ?_ | (refine dcond_intro ?_ ?_ <;> intro h) | exact .refl | refine And.intro (by kernel_rfl) ?_ | refine And.intro ⟨fun h => h, fun h => h⟩ ?_ | refine .inl ⟨_, _, DleAll_refl _, r57 _ h1, ?_⟩ | refine ⟨_, _, DleAll_refl _, r57 _ h1, ?_⟩ | refine ⟨_, _, DleAll_refl _, fun _ => r57 _ h1, ?_⟩ | (refine And.intro ?_ ?_; focus (simp; done)) | fail)
  · refine dle_bool ?_
    have h : viewB v = false := by simpa using h
    simp [repsB, h]
  · have hvw : viewB v = true := by simpa using h
    clear h
    conv => whnf
    refine ⟨Nat, fun i => ⟨[(2, .lp 0 0), (5, i64 (prevM l i)), (11, .lst 3 (l.map rptE) false), (12, i64 (l.map rptE).length), (13, i64 i)], [.cells 44 (viewE v)]⟩, fun i => i ≤ l.length ∧ ∀ j, j < i → okRep v l j = true, fun i => l.length - i, [], ⟨0, ⟨Nat.zero_le _, by omega⟩, ?_⟩, ?_⟩
    · exact ⟨by repeat' ((conv => whnf); first | exact trivial | refine And.intro (by (conv => arg 1; whnf); first | (with_reducible exact .refl) | exact dle_int (wrap_succ (by omega)) | exact .refl) ?_), by repeat' ((conv => whnf); first | exact trivial | refine And.intro ?_ ?_ | exact .refl), rfl⟩
    · intro i ⟨hi, hall⟩
      repeat' ((conv => whnf); first | refine And.intro (fun h => h) ?_ | refine dcond_t (by assumption) ?_ | refine dcond_f (by assumption) ?_ | (refine dcond_intro ?_ ?_ <;> intro h) | exact .refl | refine And.intro (by kernel_rfl) ?_ | refine And.intro ⟨fun h => h, fun h => h⟩ ?_ | (refine And.intro ?_ ?_; focus (simp; done)) | fail)
      · have hlt : i < l.length := by simpa using h
        clear h
        have hg : l.getD i rpt0 = l[i] := by simp [hlt]
        have hcc : (l[i]).cut.length ≤ 500000 := hc _ (List.getElem_mem hlt)
        have bad : okRep v l i = false → false = repsB v l := fun hb => by rw [repsB, allB_false hlt hb, Bool.and_false]
        have good : okRep v l i = true → ∃ x', (fun i => i ≤ l.length ∧ ∀ j, j < i → okRep v l j = true) x' ∧ (fun i => l.length - i) x' < (fun i => l.length - i) i ∧ x' = i + 1 := fun hb =>
          ⟨i + 1, ⟨hlt, fun j hj => by
            rcases Nat.lt_succ_iff_lt_or_eq.1 hj with hj | rfl
            · exact hall j hj
            · exact hb⟩, by simp only []; omega, rfl⟩
        have hp : prevM l (i + 1) = l[i].mem := by simp [prevM, hlt]
        repeat' ((conv => whnf); first | refine And.intro (fun h => h) ?_ | refine dcond_t (by assumption) ?_ | refine dcond_f (by assumption) ?_ | (refine dcond_intro ?_ ?_ <;> intro h) | exact .refl | refine And.intro (by kernel_rfl) ?_ | refine And.intro ⟨fun h => h, fun h => h⟩ ?_ | refine ⟨_, _, And.intro ⟨rfl, get_map hlt⟩ ?_⟩ | refine .inl ⟨_, _, DleAll_refl _, r58 _ h1 _, ?_⟩ | refine ⟨_, _, DleAll_refl _, r58 _ h1 _, ?_⟩ | refine ⟨_, _, DleAll_refl _, fun _ => r58 _ h1 _, ?_⟩ | refine .inl ⟨_, _, DleAll_refl _, r41 _, ?_⟩ | refine ⟨_, _, DleAll_refl _, r41 _, ?_⟩ | refine ⟨_, _, DleAll_refl _, fun _ => r41 _, ?_⟩ | refine .inl ⟨_, _, DleAll_refl _, r48 _ hv _ hcc, ?_⟩ | refine ⟨_, _, DleAll_refl _, r48 _ hv _ hcc, ?_⟩ | refine ⟨_, _, DleAll_refl _, fun _ => r48 _ hv _ hcc, ?_⟩ | (refine And.intro ?_ ?_; focus (simp; done)) | fail)
        all_goals (conv => whnf)
        · refine dle_bool (bad ?_)
          simp only [okRep, hg, h]
          rfl
        · rename_i h0
          rw [List.length_map] at h
          obtain ⟨x', k1, k2, rfl⟩ := good (by simp only [okRep, hg, h0, h]; rfl)
          refine ⟨i + 1, k1, k2, ?_⟩
          refine ⟨⟨.refl, ?_, .refl, .refl, dle_int (wrap_succ (by omega)), trivial⟩, ⟨.refl, trivial⟩, rfl⟩
          exact dle_int hp.symm
        · rename_i h0 h2
          rw [List.length_map] at h2
          obtain ⟨x', k1, k2, rfl⟩ := good (by simp only [okRep, hg, h0, h2, h]; rfl)
          refine ⟨i + 1, k1, k2, ?_⟩
          refine ⟨⟨.refl, ?_, .refl, .refl, dle_int (wrap_succ (by omega)), trivial⟩, ⟨.refl, trivial⟩, rfl⟩
          exact dle_int hp.symm
        · rename_i h0 h2
          rw [List.length_map] at h2
          refine dle_bool (bad ?_)
          simp only [okRep, hg, h0, h2, h]
          rfl
      · have hge : ¬ i < l.length := by simpa using h
        conv => whnf
        refine dle_bool ?_
        rw [repsB, hvw, allB_true.2 (fun j hj => hall j (by omega))]
        rfl
end Go.Proofs.Ytmfgjjnmfahcjaa
