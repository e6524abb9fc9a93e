/- The laws of this seat, part E14: contracts of the functions, plain laws. No conditions. -/
import Derived.Test.YthdpjinchanceaaV14
set_option linter.unusedSimpArgs false
set_option linter.unusedVariables false
namespace Go.Proofs.Ythdpjinchanceaa
open Go.Lift
/-! ## the order of names -/
theorem bl_irrefl : ∀ l : List UInt8, Op.bytesLess l l = false
  | [] => rfl
  | x :: r => by simp [Op.bytesLess, bl_irrefl r]
theorem bl_trans : ∀ {a b c : List UInt8}, Op.bytesLess a b = true → Op.bytesLess b c = true → Op.bytesLess a c = true
  | a, [], c, h, _ => by cases a <;> simp [Op.bytesLess] at h
  | a, _ :: _, [], _, h => by simp [Op.bytesLess] at h
  | [], _ :: _, _ :: _, _, _ => by simp [Op.bytesLess]
  | x :: a, y :: b, z :: c, h1, h2 => by
    simp only [Op.bytesLess, Bool.or_eq_true, Bool.and_eq_true, decide_eq_true_eq, beq_iff_eq] at h1 h2 ⊢
    rcases h1 with h1 | ⟨rfl, h1⟩ <;> rcases h2 with h2 | ⟨rfl, h2⟩
    · exact .inl (UInt8.lt_trans h1 h2)
    · exact .inl h1
    · exact .inl h2
    · exact .inr ⟨rfl, bl_trans h1 h2⟩
theorem less_irrefl (a : Ref) : lessB a a = false := by simp [lessB, bl_irrefl]
theorem less_trans {a b c : Ref} (h1 : lessB a b = true) (h2 : lessB b c = true) : lessB a c = true := by
  simp only [lessB, Bool.or_eq_true, Bool.and_eq_true, decide_eq_true_eq] at h1 h2 ⊢
  rcases h1 with h1 | ⟨e1, h1⟩ <;> rcases h2 with h2 | ⟨e2, h2⟩
  · exact .inl (bl_trans h1 h2)
  · exact .inl (by rw [← e2]; exact h1)
  · exact .inl (by rw [e1]; exact h2)
  · exact .inr ⟨e1.trans e2, bl_trans h1 h2⟩
theorem valid_len {d : List Rec} (h : validB d = true) : d.length ≤ 200 := by
  simp only [validB, Bool.and_eq_true] at h
  have := h.1
  simp at this
  omega
theorem sorted {d : List Rec} (h : validB d = true) : ∀ j, j < d.length → ∀ i, i < j → lessB (d.getD i zeroR).ref (d.getD j zeroR).ref = true := by
  simp only [validB, Bool.and_eq_true] at h
  have hall := allB_true.1 h.2
  intro j
  induction j with
  | zero => intro _ i hi; omega
  | succ j ih =>
    intro hj i hi
    have h1 := hall (j + 1) hj
    simp only [okAtR, Bool.and_eq_true, Bool.not_eq_true', Bool.and_eq_false_iff] at h1
    have h2 : lessB (d.getD j zeroR).ref (d.getD (j + 1) zeroR).ref = true := by
      rcases h1.2 with h1 | h1
      · simp at h1
      · simpa using h1
    rcases Nat.lt_succ_iff_lt_or_eq.1 hi with hi | rfl
    · exact less_trans (ih (by omega) i hi) h2
    · exact h2
theorem idx_some {d : List Rec} {r : Ref} {i : Nat} (h : idxO d r = some i) : ∃ hi : i < d.length, d[i].ref = r := by
  obtain ⟨h1, h2, _⟩ := List.findIdx?_eq_some_iff_getElem.1 h
  exact ⟨h1, refEq_iff.1 h2⟩
def kOf (d : List Rec) (r : Ref) : Nat := d.findIdx fun x => !lessB x.ref r
theorem kOf_found {d : List Rec} {r : Ref} {i : Nat} (hv : validB d = true) (h : idxO d r = some i) : kOf d r = i := by
  obtain ⟨hi, hr⟩ := idx_some h
  refine (List.findIdx_eq hi).2 ⟨by simp [hr, less_irrefl], fun j hj => ?_⟩
  have := sorted hv i hi j hj
  rw [List.getD_eq_getElem?_getD, List.getD_eq_getElem?_getD, List.getElem?_eq_getElem hi, List.getElem?_eq_getElem (by omega : j < d.length)] at this
  simp only [Option.getD_some, hr] at this
  simp [this]
theorem kOf_le (d : List Rec) (r : Ref) : kOf d r ≤ d.length := List.findIdx_le_length
/-- the first index of a record is the only one -/
theorem idx_only {d : List Rec} (hv : validB d = true) {i : Nat} (hi : i < d.length) : idxO d d[i].ref = some i := by
  refine List.findIdx?_eq_some_iff_getElem.2 ⟨hi, refEq_iff.2 rfl, fun j hj hc => ?_⟩
  have := sorted hv i hi j hj
  rw [List.getD_eq_getElem?_getD, List.getD_eq_getElem?_getD, List.getElem?_eq_getElem hi, List.getElem?_eq_getElem (by omega : j < d.length)] at this
  simp only [Option.getD_some, refEq_iff.1 hc, less_irrefl] at this
  cases this
theorem dle_tup2 {a b a' b' : DV} (h1 : dle a a') (h2 : dle b b') : dle (.tup [a, b]) (.tup [a', b']) := by
  refine .tup rfl (fun i c d hc hd => ?_)
  match i, hc, hd with
  | 0, hc, hd => simp at hc hd; subst hc; subst hd; exact h1
  | 1, hc, hd => simp at hc hd; subst hc; subst hd; exact h2
  | _ + 2, hc, _ => simp at hc
end Go.Proofs.Ythdpjinchanceaa
