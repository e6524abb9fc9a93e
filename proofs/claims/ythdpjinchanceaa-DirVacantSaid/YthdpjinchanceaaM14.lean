/- The laws of this seat, part M14: contracts of the functions, plain laws. No conditions. -/
import Derived.Test.YthdpjinchanceaaN14
set_option linter.unusedSimpArgs false
set_option linter.unusedVariables false
namespace Go.Proofs.Ythdpjinchanceaa
open Go.Lift
theorem reco_len (d : List Rec) (v : View) : (recoR d v).length ≤ d.length := by
  unfold recoR
  cases (!validB d || !viewB v) <;> simp
set_option maxHeartbeats 4000000 in
theorem r5 (d : List Rec) (hl : d.length ≤ maxLen) (v : View) (hv : v.mem.length ≤ maxLen) : Ret Try.prog 5 [.lst 5 (d.map recE) false, .agg (viewE v)] (.v (.bool true)) := by
  have hl' : d.length ≤ 9223372036854775807 := hl
  have hx : (recoR d v).length ≤ maxLen := Nat.le_trans (reco_len d v) hl
  have hx2 : (recoR (recoR d v) v).length ≤ maxLen := Nat.le_trans (reco_len _ v) hx
  refine ret_of_body (fn := Try.f5) (c := Try.f5.body.getD .skip) hm hT (by kernel_rfl) Try.func5 (by kernel_rfl) (by kernel_rfl) (by kernel_rfl) (by kernel_rfl) ?_
  repeat' ((conv => whnf); first | refine And.intro (fun h => h) ?_ | refine dcond_t (by assumption) ?_ | refine dcond_f (by assumption) ?_ | (refine dcond_intro ?_ ?_ <;> intro h) | exact .refl | refine And.intro (by kernel_rfl) ?_ | refine And.intro ⟨fun h => h, fun h => h⟩ ?_ | refine ⟨_, _, DleAll_refl _, r7, ?_⟩ | refine ⟨_, _, DleAll_refl _, fun _ => r7, ?_⟩ | refine ⟨_, _, DleAll_refl _, r8 _ hl, ?_⟩ | refine ⟨_, _, DleAll_refl _, fun _ => r8 _ hl, ?_⟩ | refine ⟨_, _, DleAll_refl _, r14 _ hl, ?_⟩ | refine ⟨_, _, DleAll_refl _, fun _ => r14 _ hl, ?_⟩ | refine ⟨_, _, DleAll_refl _, r17 _ hv, ?_⟩ | refine ⟨_, _, DleAll_refl _, fun _ => r17 _ hv, ?_⟩ | refine ⟨_, _, DleAll_refl _, r13 _ hl _ hv, ?_⟩ | refine ⟨_, _, DleAll_refl _, fun _ => r13 _ hl _ hv, ?_⟩ | refine ⟨_, _, DleAll_refl _, r14 _ hx, ?_⟩ | refine ⟨_, _, DleAll_refl _, fun _ => r14 _ hx, ?_⟩ | refine ⟨_, _, DleAll_refl _, r13 _ hx _ hv, ?_⟩ | refine ⟨_, _, DleAll_refl _, fun _ => r13 _ hx _ hv, ?_⟩ | refine ⟨_, _, DleAll_refl _, r18 _ _ hx2, ?_⟩ | refine ⟨_, _, DleAll_refl _, fun _ => r18 _ _ hx2, ?_⟩ | (refine And.intro ?_ ?_; focus (simp; done)) | fail)
  all_goals (conv => whnf)
  · rename_i hgate
    have hv1 : validB d = true := by
      cases hq : validB d with
      | true => rfl
      | false => simp [hq] at hgate
    have hw : viewR v = true := by
      cases hq : viewR v with
      | true => rfl
      | false => simp [hq] at hgate
    have e1 := reco_eq hv1 hw
    have e2 : recoR (recoR d v) v = recoR d v := by
      rw [e1, reco_eq (fix_valid hv1) hw, List.map_map]
      exact List.map_congr_left (fun x _ => fix_fix v x)
    rw [e2, same_refl, e1, fix_valid hv1] at h
    simp at h
  · rename_i hgate
    have hv1 : validB d = true := by
      cases hq : validB d with
      | true => rfl
      | false => simp [hq] at hgate
    have hw : viewR v = true := by
      cases hq : viewR v with
      | true => rfl
      | false => simp [hq] at hgate
    have e1 := reco_eq hv1 hw
    have hxl : (recoR d v).length = d.length := by rw [e1]; simp
    clear hgate h
    refine ⟨Nat, fun i => ⟨[(0, .lst 5 (d.map recE) false), (3, .lp 0 0), (5, .lst 5 ((recoR d v).map recE) false), (6, i64 i)], [.cells 25 (viewE v)]⟩, fun i => i ≤ d.length, fun i => d.length - i, [], ⟨0, Nat.zero_le _, ?_⟩, ?_⟩
    · exact ⟨by repeat' ((conv => whnf); first | exact trivial | refine And.intro (by (conv => arg 1; whnf); first | (with_reducible exact .refl) | exact dle_int (wrap_succ (by omega)) | exact .refl) ?_), by repeat' ((conv => whnf); first | exact trivial | refine And.intro ?_ ?_ | exact .refl), rfl⟩
    · intro i hi
      repeat' ((conv => whnf); first | refine And.intro (fun h => h) ?_ | refine dcond_t (by assumption) ?_ | refine dcond_f (by assumption) ?_ | (refine dcond_intro ?_ ?_ <;> intro h) | exact .refl | refine And.intro (by kernel_rfl) ?_ | refine And.intro ⟨fun h => h, fun h => h⟩ ?_ | (refine And.intro ?_ ?_; focus (simp; done)) | fail)
      · have hlt2 : i < (recoR d v).length := by simpa using h
        have hlt : i < d.length := by omega
        clear h
        repeat' ((conv => whnf); first | refine And.intro (fun h => h) ?_ | refine dcond_t (by assumption) ?_ | refine dcond_f (by assumption) ?_ | (refine dcond_intro ?_ ?_ <;> intro h) | exact .refl | refine And.intro (by kernel_rfl) ?_ | refine And.intro ⟨fun h => h, fun h => h⟩ ?_ | refine ⟨_, _, And.intro ⟨rfl, get_map hlt⟩ ?_⟩ | refine ⟨_, _, And.intro ⟨rfl, get_map hlt2⟩ ?_⟩ | refine ⟨_, _, DleAll_refl _, r15 _ hv _, ?_⟩ | refine ⟨_, _, DleAll_refl _, fun _ => r15 _ hv _, ?_⟩ | refine ⟨i, recE (d[i]'hlt), And.intro ⟨⟨fun h => h, fun h => h⟩, fun hg => ⟨rfl, get_map hlt⟩⟩ ?_⟩ | refine ⟨i, recE ((recoR d v)[i]'hlt2), And.intro ⟨⟨fun h => h, fun h => h⟩, fun hg => ⟨rfl, get_map hlt2⟩⟩ ?_⟩ | (refine And.intro ?_ ?_; focus (simp; done)) | fail)
        all_goals (conv => whnf)
        · have hy : (recoR d v)[i] = recFix v d[i] := by simp [e1]
          have := fix_leaf v d[i] _ hy
          rw [this] at h
          cases h
        · refine ⟨i + 1, hlt, by simp only []; omega, ?_⟩
          exact ⟨by repeat' ((conv => whnf); first | exact trivial | refine And.intro (by (conv => arg 1; whnf); first | (with_reducible exact .refl) | exact dle_int (wrap_succ (by omega)) | exact .refl) ?_), by repeat' ((conv => whnf); first | exact trivial | refine And.intro ?_ ?_ | exact .refl), rfl⟩
theorem law5 (dvs : List DV) (h : DatAll tt 5 [22, 25] dvs) : Ret Try.prog 5 dvs (.v (.bool true)) := by
  obtain ⟨a, _, rfl, ha, b, _, rfl, hb, rfl⟩ := h
  obtain ⟨d, rfl, hd⟩ := dat_recs (n := 1) ha
  obtain ⟨v, rfl, hv⟩ := dat_view (n := 2) hb
  exact r5 d hd v hv
end Go.Proofs.Ythdpjinchanceaa
