/- The laws of this seat, part OwD: contracts of the functions, plain laws. No conditions. -/
import Derived.Test.YtmfgjjnmfahcjaaOwC
set_option linter.unusedSimpArgs false
set_option linter.unusedVariables false
set_option maxRecDepth 100000
namespace Go.Proofs.Ytmfgjjnmfahcjaa
open Go.Lift
theorem dat_st9 {n : Nat} {r : List DV} (h : Dat tt (n + 2) 67 r) : ∃ x : St9, r = stE x ∧ okS x := by
  obtain ⟨_, _, rfl, ⟨a, rfl, ha⟩, _, _, rfl, ⟨b, rfl, hb⟩, _, _, rfl, ⟨c, rfl, hc⟩, _, _, rfl, ⟨d, rfl, hd⟩, _, _, rfl, ⟨e, rfl, he⟩, rfl⟩ := h
  have ha := bounds_u8 (by exact ha)
  have hb := bounds_u8 (by exact hb)
  have hc := bounds_u8 (by exact hc)
  have hd := bounds_u8 (by exact hd)
  have he := bounds_u8 (by exact he)
  refine ⟨⟨a.toNat, b.toNat, c.toNat, d.toNat, e.toNat⟩, ?_, ?_⟩
  · simp only [stE, u8]
    rw [Int.toNat_of_nonneg (by omega), Int.toNat_of_nonneg (by omega), Int.toNat_of_nonneg (by omega), Int.toNat_of_nonneg (by omega), Int.toNat_of_nonneg (by omega)]
    rfl
  · refine ⟨?_, ?_, ?_, ?_, ?_⟩ <;> simp only [] <;> omega
theorem dat_st9s {n : Nat} {r : List DV} (h : Dat tt (n + 3) 58 r) : ∃ l : List St9, r = [.lst 5 (l.map stE) false] ∧ l.length ≤ maxLen ∧ ∀ x ∈ l, okS x := by
  obtain ⟨es, rfl, hl, hes⟩ := h
  obtain ⟨d, rfl, hd⟩ := list_data (f := stE) (Q := okS) (fun r hr => dat_st9 (n := n) (hes r hr))
  exact ⟨d, rfl, by simpa using hl, hd⟩
theorem law8 (dvs : List DV) (h : DatAll tt 6 [44, 58] dvs) : Ret Try.prog 8 dvs (.v (.bool true)) := by
  obtain ⟨a1, _, rfl, h1, a2, _, rfl, h2, rfl⟩ := h
  obtain ⟨v, rfl, hv⟩ := dat_view (n := 3) h1
  obtain ⟨l, rfl, hl, hok⟩ := dat_st9s (n := 3) h2
  exact r8 v hv l hl hok
end Go.Proofs.Ytmfgjjnmfahcjaa
