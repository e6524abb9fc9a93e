/- The laws of this seat, part I14: contracts of the functions, plain laws. No conditions. -/
import Derived.Test.YthdpjinchanceaaG14
set_option linter.unusedSimpArgs false
set_option linter.unusedVariables false
namespace Go.Proofs.Ythdpjinchanceaa
open Go.Lift
theorem apply_err {d : List Rec} {v : View} {c : Cmd} (h : (applyR d v c).2 ≠ 0) : (applyR d v c).1 = [] := by
  unfold applyR at h ⊢
  cases h1 : (!validB d || !viewB v || !cmdB c) with
  | true => simp
  | false =>
    cases h2 : (!decide (checkE d.length v c (findR d c.ref).1 (findR d c.ref).2 = 0)) with
    | true => simp
    | false => simp [h1, h2] at h
theorem apply_ok {d : List Rec} {v : View} {c : Cmd} (h : (applyR d v c).2 = 0) : validB d = true ∧ (applyR d v c).1 = d.take (kOf d c.ref) ++ [chgR (findR d c.ref).1 c] ++ d.drop (dropAt d c.ref) := by
  unfold applyR at h ⊢
  cases h1 : (!validB d || !viewB v || !cmdB c) with
  | true => simp [h1] at h
  | false =>
    cases h2 : (!decide (checkE d.length v c (findR d c.ref).1 (findR d c.ref).2 = 0)) with
    | true =>
      simp only [h1, h2, cond_true, cond_false] at h
      simp [h] at h2
    | false =>
      refine ⟨?_, by simp⟩
      cases hv : validB d with
      | true => rfl
      | false => simp [hv] at h1
theorem apply_len (d : List Rec) (v : View) (c : Cmd) : (applyR d v c).1.length ≤ maxLen := by
  by_cases h : (applyR d v c).2 = 0
  · obtain ⟨h1, h2⟩ := apply_ok h
    have := valid_len h1
    rw [h2]
    simp [maxLen]
    omega
  · rw [apply_err h]
    simp
theorem findR_only {x : List Rec} {y : Rec} {q : Ref} (hy : y ∈ x) (hq : y.ref = q) (h : ∀ z ∈ x, z.ref = q → z = y) : findR x q = (y, true) := by
  unfold findR
  cases hi : idxO x q with
  | none =>
    have := List.findIdx?_eq_none_iff.1 hi y hy
    rw [refEq_iff.2 hq] at this
    cases this
  | some i =>
    obtain ⟨h1, h2⟩ := idx_some hi
    have := h _ (List.getElem_mem h1) h2
    simp [h1, this]
theorem chg_ref (r : Rec) (c : Cmd) : (chgR r c).ref = c.ref := by
  unfold chgR
  cases decide (c.kind = 1) <;> cases decide (c.kind = 2) <;> cases decide (c.kind = 3) <;> cases decide (c.kind = 4) <;> cases decide (c.kind = 5) <;> rfl
theorem chg_ep {r : Rec} (c : Cmd) (h1 : 1 ≤ r.ep) (h2 : r.ep ≤ 1099511627776) : r.ep ≤ (chgR r c).ep := by
  have hw : IntKind.i64.wrap (r.ep + 1) = r.ep + 1 := wrap_i64 (by omega) (by omega)
  unfold chgR
  cases decide (c.kind = 1) <;> cases decide (c.kind = 2) <;> cases decide (c.kind = 3) <;> cases decide (c.kind = 4) <;> cases decide (c.kind = 5) <;> simp [hw] <;> omega
theorem one_of {d : List Rec} (hv : validB d = true) {y z : Rec} (hy : y ∈ d) (hz : z ∈ d) (h : y.ref = z.ref) : y = z := by
  obtain ⟨i, hi, rfl⟩ := List.getElem_of_mem hy
  obtain ⟨j, hj, rfl⟩ := List.getElem_of_mem hz
  have h1 := idx_only hv hi
  have h2 := idx_only hv hj
  rw [h, h2] at h1
  cases h1
  rfl
theorem ep_of {d : List Rec} (hv : validB d = true) {y : Rec} (hy : y ∈ d) : 1 ≤ y.ep ∧ y.ep ≤ 1099511627776 := by
  obtain ⟨i, hi, rfl⟩ := List.getElem_of_mem hy
  simp only [validB, Bool.and_eq_true] at hv
  have h := allB_true.1 hv.2 i hi
  have hg : d.getD i zeroR = d[i] := by simp [hi]
  simp only [okAtR, hg, recOk, numB, Bool.and_eq_true, decide_eq_true_eq] at h
  exact h.1.2.1
theorem others_same {d : List Rec} {v : View} {c : Cmd} {i : Nat} (hi : i < d.length) (hok : (applyR d v c).2 = 0) (he : d[i].ref = c.ref) : ∃ y, findR (applyR d v c).1 d[i].ref = (y, true) ∧ d[i].ep ≤ y.ep := by
  obtain ⟨hv, hx⟩ := apply_ok hok
  have hidx : idxO d c.ref = some i := by rw [← he]; exact idx_only hv hi
  have hk := kOf_found hv hidx
  have hf : findR d c.ref = (d[i], true) := by simp [findR, hidx, hi]
  have hd : dropAt d c.ref = i + 1 := by simp [dropAt, hf, hk]
  rw [hx, hf, hk, hd]
  refine ⟨chgR d[i] c, findR_only (by simp) (by rw [chg_ref, he]) (fun z hz hr => ?_), ?_⟩
  · have no : ∀ j (hj : j < d.length), d[j].ref = d[i].ref → j = i := fun j hj h => by
      have h1 := idx_only hv hj
      rw [h, idx_only hv hi] at h1
      cases h1; rfl
    simp only [List.mem_append, List.mem_singleton] at hz
    rcases hz with (hz | hz) | hz
    · obtain ⟨j, hj, rfl⟩ := List.getElem_of_mem hz
      simp only [List.length_take] at hj
      rw [List.getElem_take] at hr
      have := no j (by omega) hr
      omega
    · exact hz
    · obtain ⟨j, hj, rfl⟩ := List.getElem_of_mem hz
      simp only [List.length_drop] at hj
      rw [List.getElem_drop] at hr
      have := no (i + 1 + j) (by omega) hr
      omega
  · have := ep_of hv (List.getElem_mem hi)
    exact chg_ep c this.1 this.2
theorem others_else {d : List Rec} {v : View} {c : Cmd} {i : Nat} (hi : i < d.length) (hok : (applyR d v c).2 = 0) (he : d[i].ref ≠ c.ref) :
    findR (applyR d v c).1 d[i].ref = (d[i], true) ∧ d.length ≤ (applyR d v c).1.length ∧ (applyR d v c).1.length ≤ d.length + 1 := by
  obtain ⟨hv, hx⟩ := apply_ok hok
  rw [hx]
  have hkl := kOf_le d c.ref
  have hcase : (∃ j, ∃ hj : j < d.length, d[j].ref = c.ref ∧ kOf d c.ref = j ∧ dropAt d c.ref = j + 1) ∨ dropAt d c.ref = kOf d c.ref := by
    cases hidx : idxO d c.ref with
    | none => right; simp [dropAt, findR, hidx]
    | some j =>
      left
      obtain ⟨hj, hr⟩ := idx_some hidx
      have hk := kOf_found hv hidx
      exact ⟨j, hj, hr, hk, by simp [dropAt, findR, hidx, hk]⟩
  have hmem : d[i] ∈ d.take (kOf d c.ref) ++ [chgR (findR d c.ref).1 c] ++ d.drop (dropAt d c.ref) := by
    simp only [List.mem_append]
    by_cases hlt : i < kOf d c.ref
    · exact .inl (.inl (List.mem_iff_getElem.2 ⟨i, by simp; omega, by simp⟩))
    · right
      have hge : dropAt d c.ref ≤ i := by
        rcases hcase with ⟨j, hj, hr, hk, hd⟩ | hd
        · have : i ≠ j := fun e => by subst e; exact he hr
          omega
        · omega
      exact List.mem_iff_getElem.2 ⟨i - dropAt d c.ref, by simp; omega, by simp [show dropAt d c.ref + (i - dropAt d c.ref) = i by omega]⟩
  refine ⟨findR_only hmem rfl (fun z hz hr => ?_), ?_, ?_⟩
  · simp only [List.mem_append, List.mem_singleton] at hz
    rcases hz with (hz | hz) | hz
    · exact one_of hv (List.mem_of_mem_take hz) (List.getElem_mem hi) hr
    · exact absurd (by rw [← hr, hz, chg_ref]) he
    · exact one_of hv (List.mem_of_mem_drop hz) (List.getElem_mem hi) hr
  · simp
    rcases hcase with ⟨j, hj, hr, hk, hd⟩ | hd <;> omega
  · simp
    rcases hcase with ⟨j, hj, hr, hk, hd⟩ | hd <;> omega
end Go.Proofs.Ythdpjinchanceaa
