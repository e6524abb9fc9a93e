/- The laws of this seat, part N14: contracts of the functions, plain laws. No conditions. -/
import Derived.Test.YthdpjinchanceaaL14
set_option linter.unusedSimpArgs false
set_option linter.unusedVariables false
namespace Go.Proofs.Ythdpjinchanceaa
open Go.Lift
theorem ids_of {l : List Int} (h : idsR l = true) : idsB l 16 = true := by
  simp only [idsR, Bool.and_eq_true, decide_eq_true_eq] at h
  obtain ⟨⟨h1, h2⟩, h3⟩ := h
  have h3 := allB_true.1 h3
  simp only [idsB, Bool.and_eq_true, Bool.not_eq_true', Bool.or_eq_false_iff, decide_eq_false_iff_not]
  refine ⟨⟨by omega, by omega⟩, allB_true.2 (fun i hi => ?_)⟩
  have h4 := h3 i hi
  simp only [riseAt, identB, Bool.not_eq_true', Bool.or_eq_false_iff, Bool.and_eq_false_iff, decide_eq_false_iff_not, Bool.not_eq_false', Bool.and_eq_true, decide_eq_true_eq] at h4
  simp only [okAt, Bool.not_eq_true', Bool.or_eq_false_iff, decide_eq_false_iff_not]
  cases i with
  | zero =>
    rw [List.getD_cons_zero]
    omega
  | succ i =>
    rw [List.getD_cons_succ]
    have e : i + 1 - 1 = i := by omega
    rw [e] at h4
    omega
theorem view_of {v : View} (h : viewR v = true) : viewB v = true := by
  simp only [viewR, viewB, Bool.and_eq_true] at h ⊢
  exact ⟨h.1, ids_of h.2⟩
theorem fix_ref (v : View) (x : Rec) : (recFix v x).ref = x.ref := by
  unfold recFix
  cases h1 : inB v.mem x.mem <;> cases h2 : inB v.mem x.tgt <;> cases h3 : inB v.mem 0 <;> simp [h1, h2, h3]
theorem fix_fix (v : View) (x : Rec) : recFix v (recFix v x) = recFix v x := by
  unfold recFix
  cases h1 : inB v.mem x.mem <;> cases h2 : inB v.mem x.tgt <;> cases h3 : inB v.mem 0 <;> simp [h1, h2, h3]
theorem fix_rec {v : View} {x : Rec} (h : recOk x = true) : recOk (recFix v x) = true := by
  simp only [recOk, Bool.and_eq_true] at h
  obtain ⟨h4, h5, h6, h7⟩ := h
  unfold recFix
  cases h1 : inB v.mem x.mem <;> cases h2 : inB v.mem x.tgt <;> cases h3 : inB v.mem 0 <;> simp [h1, h2, h3, recOk, h4, h5, h6, h7]
  all_goals simpa using h6
theorem fix_valid {d : List Rec} {v : View} (h : validB d = true) : validB (d.map (recFix v)) = true := by
  simp only [validB, Bool.and_eq_true] at h ⊢
  refine ⟨by simpa using h.1, allB_true.2 (fun i hi => ?_)⟩
  have hi : i < d.length := by simpa using hi
  have h2 := allB_true.1 h.2 i hi
  have e1 : (d.map (recFix v)).getD i zeroR = recFix v (d.getD i zeroR) := by simp [hi]
  have e2 : (d.map (recFix v)).getD (i - 1) zeroR = recFix v (d.getD (i - 1) zeroR) := by simp [show i - 1 < d.length by omega]
  simp only [okAtR, Bool.and_eq_true] at h2 ⊢
  rw [e1, e2, fix_ref, fix_ref]
  exact ⟨fix_rec h2.1, h2.2⟩
theorem reco_eq {d : List Rec} {v : View} (h : validB d = true) (hw : viewR v = true) : recoR d v = d.map (recFix v) := by
  simp [recoR, h, view_of hw]
theorem same_refl (a : List Rec) : sameB a a = true := by
  simp only [sameB, decide_true, Bool.true_and]
  exact allB_true.2 (fun i _ => by simp [recEq])
theorem fix_leaf (v : View) (x y : Rec) (hy : y = recFix v x) :
    (!(decide (y.ref.ty = x.ref.ty) && (decide (y.ref.key = x.ref.key) && true)) || !decide (y.ep = x.ep) || !decide (y.mem = x.mem) == (inB v.mem x.mem || decide (x.mem = 0)) || !decide (y.mem = 0) && !inB v.mem x.mem || !decide (y.tgt = 0) && !inB v.mem y.tgt) = false := by
  subst hy
  unfold recFix
  cases h1 : inB v.mem x.mem <;> cases h2 : inB v.mem x.tgt <;> cases h3 : inB v.mem 0 <;> simp [h1, h2, h3, eq_comm]
end Go.Proofs.Ythdpjinchanceaa
