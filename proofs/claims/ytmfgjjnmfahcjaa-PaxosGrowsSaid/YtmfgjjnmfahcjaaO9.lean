/- The laws of this seat, part O9: contracts of the functions, plain laws. No conditions. -/
import Derived.Test.YtmfgjjnmfahcjaaN9
set_option linter.unusedSimpArgs false
set_option linter.unusedVariables false
namespace Go.Proofs.Ytmfgjjnmfahcjaa
open Go.Lift
def byteI (n : Nat) : List DV := [.v (.int .u8 n)]
def cX (w : Nat) : Int := IntKind.i64.wrap (1 + IntKind.i64.wrap (Int.tmod (w : Int) 3))
def rX (w : Nat) : Int := rankOf (IntKind.i64.wrap (1 + Int.tmod (IntKind.i64.wrap (IntKind.u8.wrap (Int.tdiv (w : Int) 16))) 6)) (IntKind.i64.wrap (1 + IntKind.i64.wrap (Int.tmod (w : Int) 4)))
/-- what is wrong with a step -/
def badB (a b : Acc) (ok : Bool) : Bool :=
  !accB b || decide (b.pro < a.pro) || decide (b.rank < a.rank) || !ok && (!decide (b.pro = a.pro) || !decide (b.rank = a.rank)) || decide (b.rank = a.rank) && !sameI a.cut b.cut
theorem badB_refl {a : Acc} (h : accB a = true) (ok : Bool) : badB a a ok = false := by
  simp [badB, h, sameI_refl]
theorem accB_iff (a : Acc) : accB a = true ↔ (a.pro = 0 ∨ ownerOf a.pro ≠ 0) ∧ a.rank ≤ a.pro ∧ ((a.rank = -1 ∧ a.cut = []) ∨ ((a.rank = 0 ∨ ownerOf a.rank ≠ 0) ∧ a.rank ≠ -1 ∧ idsB a.cut 32 = true)) := by
  simp only [accB, usableB]
  by_cases h1 : a.pro = 0 <;> by_cases h2 : ownerOf a.pro = 0 <;> by_cases h3 : a.rank = -1 <;> by_cases h4 : a.rank = 0 <;> by_cases h5 : ownerOf a.rank = 0 <;> by_cases h6 : a.pro < a.rank <;> simp [*]
  all_goals (try omega)
  all_goals (try (intro; omega))
theorem vote_step {a : Acc} (h : accB a = true) (cut : List Int) : badB a (voteR a cut).1 (voteR a cut).2 = false ∧ ((voteR a cut).2 = true → a.rank = -1 ∧ (voteR a cut).1.rank = 0) := by
  simp only [voteR, h, Bool.not_true, cond_false]
  cases hc : (!decide (a.pro = 0) || !decide (a.rank = -1) || !idsB cut 32)
  · simp only [Bool.or_eq_false_iff, Bool.not_eq_false', decide_eq_true_eq] at hc
    obtain ⟨⟨h1, h2⟩, h3⟩ := hc
    simp only [cond_false]
    refine ⟨?_, fun _ => ⟨h2, by first | rfl | trivial⟩⟩
    have hb : accB ⟨0, 0, cut⟩ = true := by
      rw [accB_iff]
      exact ⟨.inl rfl, Int.le_refl _, .inr ⟨.inl rfl, by simp, h3⟩⟩
    simp [badB, hb, h1, h2]
  · simp only [cond_true]
    exact ⟨badB_refl h _, fun e => by cases e⟩
theorem accept_step {a : Acc} (h : accB a = true) (rank : Int) (cut : List Int) : badB a (acceptR a rank cut).1 (acceptR a rank cut).2 = false ∧
    ((acceptR a rank cut).2 && (!decide ((acceptR a rank cut).1.rank = rank) || !sameI (acceptR a rank cut).1.cut cut)) = false ∧ a.rank ≤ (acceptR a rank cut).1.rank := by
  simp only [acceptR, h, Bool.not_true, cond_false]
  cases hc : (!usableB rank || decide (rank < a.pro) || !idsB cut 32 || decide (a.rank = rank) && !sameI a.cut cut)
  · simp only [Bool.or_eq_false_iff, Bool.not_eq_false', decide_eq_false_iff_not, Bool.and_eq_false_iff] at hc
    obtain ⟨⟨⟨h1, h2⟩, h3⟩, h4⟩ := hc
    simp only [cond_false]
    have hu : ownerOf rank ≠ 0 := by simpa [usableB] using h1
    have hr := owner_low hu
    have ha := (accB_iff a).1 h
    have hb : accB ⟨rank, rank, cut⟩ = true := by
      rw [accB_iff]
      exact ⟨.inr hu, Int.le_refl _, .inr ⟨.inr hu, by simp; omega, h3⟩⟩
    refine ⟨?_, by simp [sameI_refl], by have := ha.2.1; simp; omega⟩
    have h5 : ¬ (rank < a.rank) := by have := ha.2.1; omega
    simp only [badB, hb, Bool.not_true, Bool.false_or, Bool.not_false, Bool.false_and, Bool.or_false]
    simp only [h2, h5, decide_false, Bool.false_or, Bool.and_eq_false_iff, decide_eq_false_iff_not, Bool.not_eq_false']
    rcases h4 with h4 | h4
    · exact .inl (fun e => h4 e.symm)
    · exact .inr h4
  · simp only [cond_true]
    exact ⟨badB_refl h _, by simp, Int.le_refl _⟩
theorem prep_step {a : Acc} (h : accB a = true) (rank : Int) : badB a (prepR a rank).1 (prepR a rank).2.2 = false ∧
    ((prepR a rank).2.2 && (!decide ((prepR a rank).2.1.rank = a.rank) || !sameI (prepR a rank).2.1.cut a.cut || !decide ((prepR a rank).1.pro = rank) || !decide ((prepR a rank).1.rank = a.rank))) = false ∧ a.rank ≤ (prepR a rank).1.rank := by
  simp only [prepR, h, Bool.not_true, cond_false]
  cases hc : (!usableB rank || decide (rank < a.pro))
  · simp only [Bool.or_eq_false_iff, Bool.not_eq_false', decide_eq_false_iff_not] at hc
    obtain ⟨h1, h2⟩ := hc
    simp only [cond_false]
    have hu : ownerOf rank ≠ 0 := by simpa [usableB] using h1
    have ha := (accB_iff a).1 h
    have hb : accB ⟨rank, a.rank, a.cut⟩ = true := by
      rw [accB_iff]
      exact ⟨.inr hu, by have := ha.2.1; simp; omega, ha.2.2⟩
    exact ⟨by simp [badB, hb, sameI_refl, h2], by simp [sameI_refl], Int.le_refl _⟩
  · simp only [cond_true]
    exact ⟨badB_refl h _, by simp, Int.le_refl _⟩
end Go.Proofs.Ytmfgjjnmfahcjaa
