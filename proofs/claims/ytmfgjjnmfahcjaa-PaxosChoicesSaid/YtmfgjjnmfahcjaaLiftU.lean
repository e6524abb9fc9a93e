/- A data-level logic for the model: what a body does to data; its soundness (part LiftU). No conditions. -/
import Derived.Test.YtmfgjjnmfahcjaaLiftT
set_option linter.unusedSimpArgs false
set_option linter.unusedVariables false
namespace Go.Lift
open Go
/-! # Small facts for the walks -/
theorem get_map {α : Type} {l : List α} {f : α → List DV} {i : Nat} (h : i < l.length) : (l.map f)[i]? = some (f (l[i]'h)) := by simp [h]
theorem dle_int {k : IntKind} {a b : Int} (h : a = b) : dle (.v (.int k a)) (.v (.int k b)) := by subst h; exact .refl
theorem dle_lst {sz : Nat} {f : Bool} {es es' : List (List DV)} (h : es = es') : dle (.lst sz es f) (.lst sz es' f) := by subst h; exact .refl
theorem dleAll_get : ∀ {l l' : List DV}, DleAll l l' → l.length = l'.length ∧ ∀ (i : Nat) c d, l[i]? = some c → l'[i]? = some d → dle c d
  | [], [], _ => ⟨rfl, fun i c d h _ => by simp at h⟩
  | [], _ :: _, h => h.elim
  | _ :: _, [], h => h.elim
  | x :: l, y :: l', h => by
    obtain ⟨h1, h2⟩ := dleAll_get h.2
    refine ⟨by simp [h1], fun i c d hc hd => ?_⟩
    cases i with
    | zero =>
      simp only [List.getElem?_cons_zero, Option.some.injEq] at hc hd
      subst hc; subst hd; exact h.1
    | succ i => exact h2 i c d (by simpa using hc) (by simpa using hd)
theorem dle_aggA {cs ds : List DV} (h : DleAll cs ds) : dle (.agg cs) (.agg ds) := .agg (dleAll_get h).1 (dleAll_get h).2
theorem dle_tupA {cs ds : List DV} (h : DleAll cs ds) : dle (.tup cs) (.tup ds) := .tup (dleAll_get h).1 (dleAll_get h).2
def RowsLe : List (List DV) → List (List DV) → Prop
  | [], [] => True
  | x :: r, y :: r' => DleAll x y ∧ RowsLe r r'
  | _, _ => False
theorem rowsLe_get : ∀ {l l' : List (List DV)}, RowsLe l l' → l.length = l'.length ∧ ∀ (i : Nat) c d, l[i]? = some c → l'[i]? = some d → DleAll c d
  | [], [], _ => ⟨rfl, fun i c d h _ => by simp at h⟩
  | [], _ :: _, h => h.elim
  | _ :: _, [], h => h.elim
  | x :: l, y :: l', h => by
    obtain ⟨h1, h2⟩ := rowsLe_get h.2
    refine ⟨by simp [h1], fun i c d hc hd => ?_⟩
    cases i with
    | zero =>
      simp only [List.getElem?_cons_zero, Option.some.injEq] at hc hd
      subst hc; subst hd; exact h.1
    | succ i => exact h2 i c d (by simpa using hc) (by simpa using hd)
theorem dle_rowsA {sz : Nat} {f : Bool} {es es' : List (List DV)} (h : RowsLe es es') : dle (.lst sz es f) (.lst sz es' f) :=
  .rows (rowsLe_get h).1 (fun i r r' h1 h2 => (dleAll_get ((rowsLe_get h).2 i r r' h1 h2)).1) (fun i j r r' c d h1 h2 h3 h4 => (dleAll_get ((rowsLe_get h).2 i r r' h1 h2)).2 j c d h3 h4)
theorem dle_bool {a b : Bool} (h : a = b) : dle (.v (.bool a)) (.v (.bool b)) := by subst h; exact .refl
theorem list_data {α : Type} {f : α → List DV} {Q : α → Prop} : ∀ {es : List (List DV)}, (∀ r ∈ es, ∃ x, r = f x ∧ Q x) → ∃ l : List α, es = l.map f ∧ ∀ x ∈ l, Q x
  | [], _ => ⟨[], rfl, by simp⟩
  | r :: es, h => by
    obtain ⟨x, rfl, hx⟩ := h r (by simp)
    obtain ⟨l, rfl, hl⟩ := list_data (es := es) (fun r hr => h r (by simp [hr]))
    exact ⟨x :: l, rfl, by simpa using ⟨hx, hl⟩⟩
theorem wrap_i64 {n : Int} (h1 : -9223372036854775808 ≤ n) (h2 : n ≤ 9223372036854775807) : IntKind.i64.wrap n = n := by
  simp [IntKind.wrap, IntKind.signed, IntKind.bits]
  omega
theorem wrap_u8 {n : Int} (h1 : 0 ≤ n) (h2 : n ≤ 255) : IntKind.u8.wrap n = n := by
  simp [IntKind.wrap, IntKind.signed, IntKind.bits]
  omega
theorem wrap_succ {i : Nat} (h : i < 9223372036854775807) : IntKind.i64.wrap ((i : Int) + 1) = ((i + 1 : Nat) : Int) := by
  rw [wrap_i64 (by omega) (by omega)]; rfl
theorem wrap_pred {i : Nat} (h : i ≤ 9223372036854775807) (hg : decide (0 < (i : Int)) = true) : IntKind.i64.wrap ((i : Int) - 1) = ((i - 1 : Nat) : Int) := by
  have : 0 < i := by simpa using hg
  rw [wrap_i64 (by omega) (by omega)]
  omega
theorem dcond_t {b : Bool} {x y : Prop} (h : b = true) (hx : x) : dcond b x y := by subst h; exact hx
theorem dcond_f {b : Bool} {x y : Prop} (h : b = false) (hy : y) : dcond b x y := by subst h; exact hy
/-- the first of 0 .. n-1 of which 'p' holds, or -1 -/
def findB (p : Nat → Bool) (n : Nat) : Int := match (List.range n).find? p with
  | some i => (i : Nat)
  | none => -1
theorem findB_at {p : Nat → Bool} {n i : Nat} (hi : i < n) (hp : p i = true) (hall : ∀ j, j < i → p j = false) : findB p n = i := by
  have : (List.range n).find? p = some i := by
    rw [List.find?_range_eq_some]
    exact ⟨hp, by simpa using hi, fun j hj => by simp [hall j hj]⟩
  simp [findB, this]
theorem findB_none {p : Nat → Bool} {n : Nat} (hall : ∀ j, j < n → p j = false) : findB p n = -1 := by
  have : (List.range n).find? p = none := by
    rw [List.find?_eq_none]
    intro j hj
    simp [hall j (by simpa using hj)]
  simp [findB, this]
def allB (p : Nat → Bool) (n : Nat) : Bool := (List.range n).all p
theorem allB_true {p : Nat → Bool} {n : Nat} : allB p n = true ↔ ∀ j, j < n → p j = true := by simp [allB]
theorem allB_false {p : Nat → Bool} {n i : Nat} (hi : i < n) (hp : p i = false) : allB p n = false := by
  cases h : allB p n with
  | false => rfl
  | true => rw [allB_true] at h; rw [h i hi] at hp; cases hp
end Go.Lift
