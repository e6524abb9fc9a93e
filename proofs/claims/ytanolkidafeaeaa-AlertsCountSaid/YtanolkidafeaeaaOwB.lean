/- The laws of this seat, part OwB: contracts of the functions, plain laws. No conditions. -/
import Derived.Test.YtanolkidafeaeaaOwA
import Derived.Shelf.Lays
import Derived.Shelf.Lays2
import Derived.Test.YtanolkidafeaeaaProg
import Derived.Test.YtanolkidafeaeaaLfE
set_option linter.unusedSimpArgs false
set_option linter.unusedVariables false
namespace Go.Proofs.Ytanolkidafeaeaa
open Go.Lift
/-! the law's own helpers -/
def bE16 (n : Nat) : List DV := [.v (.int .u16 n)]
def subOf (v : View) (c : Nat) : Int := if 32768 ≤ c then 1 + ((c / 8 % 1000 : Nat) : Int) else v.mem.getD (c / 8 % v.mem.length) 0
def pairOf (v : View) (c : Nat) : List Alr := bif decide (((obsR v.mem (subOf v c)).length : Int) = 5) then [⟨v.num, ((c % 8 % 5 : Nat) : Int), (obsR v.mem (subOf v c)).getD (c % 8 % 5) 0, subOf v c⟩] else []
def pairsR (v : View) (l : List Nat) (i : Nat) : List Alr := (l.take i).flatMap (pairOf v)
theorem pairs_succ {v : View} {l : List Nat} {i : Nat} (h : i < l.length) : pairsR v l (i + 1) = pairsR v l i ++ pairOf v l[i] := by
  unfold pairsR
  rw [List.take_succ_eq_append_getElem h, List.flatMap_append]
  simp
theorem pairs_len {v : View} {l : List Nat} : ∀ i, i ≤ l.length → (pairsR v l i).length ≤ i
  | 0, _ => by simp [pairsR]
  | i + 1, h => by
    have ih := pairs_len (v := v) (l := l) i (by omega)
    rw [pairs_succ (by omega), List.length_append]
    unfold pairOf
    cases decide (((obsR v.mem (subOf v l[i])).length : Int) = 5) <;> simp <;> omega
theorem wrap_u16 {n : Int} (h1 : 0 ≤ n) (h2 : n < 65536) : IntKind.u16.wrap n = n := by
  simp only [IntKind.wrap, IntKind.bits, IntKind.signed]
  simp
  omega
set_option maxRecDepth 100000 in
theorem c_Pairs (v : View) (hv : v.mem.length ≤ maxLen) (hvw : viewB v = true) (l : List Nat) (hl : l.length ≤ 60) (hlb : ∀ x ∈ l, x ≤ 65535) : Ret Try.prog 9 [.agg (viewE v), .lst 1 (l.map bE16) false] (.lst 4 ((pairsR v l l.length).map alE) false) := by
  have e1 := c_ref3_Valid v hv
  rw [hvw] at e1
  have hn := view_len hvw
  have hm0 : 0 < v.mem.length := hn.1
  have hne : ((v.mem.map intE).length : Int) ≠ 0 := by
    rw [List.length_map]
    omega
  refine ret_of_body (fn := Try.f9) (c := Try.f9.body.getD .skip) hm hT (by kernel_rfl) Try.func9 (by kernel_rfl) (by kernel_rfl) (by kernel_rfl) (by kernel_rfl) ?_
  repeat' ((conv => whnf); first | refine And.intro (fun h => h) ?_ | refine dcond_t (by assumption) ?_ | refine dcond_f (by assumption) ?_ | (refine dcond_intro ?_ ?_ <;> intro h) | exact .refl | refine And.intro (by kernel_rfl) ?_ | refine And.intro ⟨fun h => h, fun h => h⟩ ?_ | (refine And.intro ?_ ?_; focus (simp; done)) | fail)
  all_goals (conv => whnf)
  refine ⟨Nat, fun i => ⟨[(1, .lst 1 (l.map bE16) false), (2, .lp 0 0), (5, .own 1), (6, i64 i)], [.cells 24 (viewE v), .row 35 4 ((pairsR v l i).map alE)]⟩, fun i => i ≤ l.length, fun i => l.length - i, [.slot 5 35 4], ⟨0, Nat.zero_le _, ?_⟩, ?_⟩
  · conv => whnf
    exact ⟨⟨.refl, .refl, .refl, .refl, trivial⟩, ⟨.refl, .refl, trivial⟩, by rfl⟩
  · intro i hi
    repeat' ((conv => whnf); first | refine And.intro (fun h => h) ?_ | refine dcond_t (by assumption) ?_ | refine dcond_f (by assumption) ?_ | (refine dcond_intro ?_ ?_ <;> intro h) | exact .refl | refine And.intro (by kernel_rfl) ?_ | refine And.intro ⟨fun h => h, fun h => h⟩ ?_ | refine ⟨_, _, DleAll_refl _, fun _ => e1, ?_⟩ | (refine And.intro ?_ ?_; focus (simp; done)) | fail)
    · have hlt : i < l.length := by simpa using h
      clear h
      have hc := hlb l[i] (List.getElem_mem hlt)
      have hs := pairs_succ (v := v) hlt
      have hpl := pairs_len (v := v) (l := l) i hi
      have hq : IntKind.i64.wrap (IntKind.u16.wrap (Int.tdiv (l[i] : Int) 8)) = ((l[i] / 8 : Nat) : Int) := by
        have e : Int.tdiv (l[i] : Int) 8 = ((l[i] / 8 : Nat) : Int) := (Int.ofNat_tdiv l[i] 8).symm
        rw [e, wrap_u16 (by omega) (by omega), wrap_i64 (by omega) (by omega)]
      have hix : Int.tmod (IntKind.i64.wrap (IntKind.u16.wrap (Int.tdiv (l[i] : Int) 8))) ((v.mem.map intE).length : Int) = ((l[i] / 8 % v.mem.length : Nat) : Int) := by
        rw [hq, List.length_map]
        exact (Int.ofNat_tmod _ _).symm
      have hr : Int.tmod (IntKind.i64.wrap (Int.tmod (l[i] : Int) 8)) 5 = ((l[i] % 8 % 5 : Nat) : Int) := by
        have e : Int.tmod (l[i] : Int) 8 = ((l[i] % 8 : Nat) : Int) := (Int.ofNat_tmod l[i] 8).symm
        rw [e, wrap_i64 (by omega) (by omega)]
        exact (Int.ofNat_tmod _ 5).symm
      have hp : pairOf v l[i] = bif decide (((obsR v.mem (subOf v l[i])).length : Int) = 5) then [⟨v.num, ((l[i] % 8 % 5 : Nat) : Int), (obsR v.mem (subOf v l[i])).getD (l[i] % 8 % 5) 0, subOf v l[i]⟩] else [] := rfl
      have hfa : ((pairsR v l i).map alE).length + 1 ≤ 2000000 := by
        rw [List.length_map]
        omega
      have hgx : (v.mem.map intE)[l[i] / 8 % v.mem.length]? = some (intE (v.mem.getD (l[i] / 8 % v.mem.length) 0)) := by
        have : l[i] / 8 % v.mem.length < v.mem.length := Nat.mod_lt _ hm0
        simp [this]
      repeat' ((conv => whnf); first | refine And.intro (fun h => h) ?_ | refine dcond_t (by assumption) ?_ | refine dcond_f (by assumption) ?_ | (refine dcond_intro ?_ ?_ <;> intro h) | exact .refl | refine And.intro (by kernel_rfl) ?_ | refine And.intro ⟨fun h => h, fun h => h⟩ ?_ | refine ⟨_, _, And.intro ⟨rfl, get_map hlt⟩ ?_⟩ | refine And.intro hne ?_ | refine And.intro (by decide) ?_ | refine ⟨l[i] / 8 % v.mem.length, _, And.intro ⟨hix, hgx⟩ ?_⟩ | (refine And.intro ?_ ?_; focus (simp; done)) | fail)
      all_goals (conv => whnf)
      · have hX : IntKind.i64.wrap (1 + Int.tmod (IntKind.i64.wrap (IntKind.u16.wrap (Int.tdiv (l[i] : Int) 8))) 1000) = subOf v l[i] := by
          have h := of_decide_eq_true h
          have e : Int.tmod ((l[i] / 8 : Nat) : Int) 1000 = ((l[i] / 8 % 1000 : Nat) : Int) := (Int.ofNat_tmod (l[i] / 8) 1000).symm
          rw [hq, e, wrap_i64 (by omega) (by omega)]
          unfold subOf
          rw [if_pos (by omega)]
        have e' : Ret Try.prog 20 [.lst 1 (v.mem.map intE) false, .v (.int .i64 (IntKind.i64.wrap (1 + Int.tmod (IntKind.i64.wrap (IntKind.u16.wrap (Int.tdiv (l[i] : Int) 8))) 1000)))] (.lst 1 ((obsR v.mem (subOf v l[i])).map intE) false) := by
          rw [hX]
          exact c_ref4_Observers v.mem hv (subOf v l[i])
        clear h
        generalize obsR v.mem (subOf v l[i]) = O at e' hp
        generalize subOf v l[i] = sb at hX hp
        repeat' ((conv => whnf); first | refine And.intro (fun h => h) ?_ | refine dcond_t (by assumption) ?_ | refine dcond_f (by assumption) ?_ | (refine dcond_intro ?_ ?_ <;> intro h) | exact .refl | refine And.intro (by kernel_rfl) ?_ | refine And.intro ⟨fun h => h, fun h => h⟩ ?_ | refine .inl ⟨_, _, DleAll_refl _, e', ?_⟩ | refine ⟨_, _, DleAll_refl _, fun _ => e', ?_⟩ | refine ⟨_, _, DleAll_refl _, e', ?_⟩ | (refine And.intro ?_ ?_; focus (simp; done)) | fail)
        · rw [List.length_map] at h
          rw [h, cond_true] at hp
          have h5 : O.length = 5 := by
            have := of_decide_eq_true h
            omega
          have hgO : (O.map intE)[l[i] % 8 % 5]? = some (intE (O.getD (l[i] % 8 % 5) 0)) := by
            have : l[i] % 8 % 5 < O.length := by omega
            simp [this]
          repeat' ((conv => whnf); first | refine And.intro (fun h => h) ?_ | refine dcond_t (by assumption) ?_ | refine dcond_f (by assumption) ?_ | (refine dcond_intro ?_ ?_ <;> intro h) | exact .refl | refine And.intro (by kernel_rfl) ?_ | refine And.intro ⟨fun h => h, fun h => h⟩ ?_ | refine ⟨l[i] % 8 % 5, intE (O.getD (l[i] % 8 % 5) 0), And.intro ⟨hr, hgO⟩ ?_⟩ | refine And.intro (fitsA hfa) ?_ | (refine And.intro ?_ ?_; focus (simp; done)) | fail)
          all_goals (conv => whnf)
          refine ⟨i + 1, hlt, by simp only []; omega, ?_⟩
          conv => whnf
          refine ⟨⟨.refl, .refl, .refl, dle_int (wrap_succ (by omega)), trivial⟩, ⟨.refl, ole_row ?_, trivial⟩, by rfl⟩
          rw [hs, hp, List.map_append, ← hX]
          show (_ : List (List DV)) ++ [[_, DV.v (.int .i64 (Int.tmod (IntKind.i64.wrap (Int.tmod (l[i] : Int) 8)) 5)), _, _]] = _
          rw [hr]
          rfl
        · rw [List.length_map] at h
          rw [h, cond_false] at hp
          conv => whnf
          refine ⟨i + 1, hlt, by simp only []; omega, ?_⟩
          conv => whnf
          refine ⟨⟨.refl, .refl, .refl, dle_int (wrap_succ (by omega)), trivial⟩, ⟨.refl, ole_row ?_, trivial⟩, by rfl⟩
          rw [hs, hp, List.append_nil]
      · have hX : v.mem.getD (l[i] / 8 % v.mem.length) 0 = subOf v l[i] := by
          have h := of_decide_eq_false h
          unfold subOf
          rw [if_neg (by omega)]
        have e' : Ret Try.prog 20 [.lst 1 (v.mem.map intE) false, .v (.int .i64 (v.mem.getD (l[i] / 8 % v.mem.length) 0))] (.lst 1 ((obsR v.mem (subOf v l[i])).map intE) false) := by
          rw [hX]
          exact c_ref4_Observers v.mem hv (subOf v l[i])
        clear h
        generalize obsR v.mem (subOf v l[i]) = O at e' hp
        generalize subOf v l[i] = sb at hX hp
        repeat' ((conv => whnf); first | refine And.intro (fun h => h) ?_ | refine dcond_t (by assumption) ?_ | refine dcond_f (by assumption) ?_ | (refine dcond_intro ?_ ?_ <;> intro h) | exact .refl | refine And.intro (by kernel_rfl) ?_ | refine And.intro ⟨fun h => h, fun h => h⟩ ?_ | refine .inl ⟨_, _, DleAll_refl _, e', ?_⟩ | refine ⟨_, _, DleAll_refl _, fun _ => e', ?_⟩ | refine ⟨_, _, DleAll_refl _, e', ?_⟩ | (refine And.intro ?_ ?_; focus (simp; done)) | fail)
        · rw [List.length_map] at h
          rw [h, cond_true] at hp
          have h5 : O.length = 5 := by
            have := of_decide_eq_true h
            omega
          have hgO : (O.map intE)[l[i] % 8 % 5]? = some (intE (O.getD (l[i] % 8 % 5) 0)) := by
            have : l[i] % 8 % 5 < O.length := by omega
            simp [this]
          repeat' ((conv => whnf); first | refine And.intro (fun h => h) ?_ | refine dcond_t (by assumption) ?_ | refine dcond_f (by assumption) ?_ | (refine dcond_intro ?_ ?_ <;> intro h) | exact .refl | refine And.intro (by kernel_rfl) ?_ | refine And.intro ⟨fun h => h, fun h => h⟩ ?_ | refine ⟨l[i] % 8 % 5, intE (O.getD (l[i] % 8 % 5) 0), And.intro ⟨hr, hgO⟩ ?_⟩ | refine And.intro (fitsA hfa) ?_ | (refine And.intro ?_ ?_; focus (simp; done)) | fail)
          all_goals (conv => whnf)
          refine ⟨i + 1, hlt, by simp only []; omega, ?_⟩
          conv => whnf
          refine ⟨⟨.refl, .refl, .refl, dle_int (wrap_succ (by omega)), trivial⟩, ⟨.refl, ole_row ?_, trivial⟩, by rfl⟩
          rw [hs, hp, List.map_append, ← hX]
          show (_ : List (List DV)) ++ [[_, DV.v (.int .i64 (Int.tmod (IntKind.i64.wrap (Int.tmod (l[i] : Int) 8)) 5)), _, _]] = _
          rw [hr]
          rfl
        · rw [List.length_map] at h
          rw [h, cond_false] at hp
          conv => whnf
          refine ⟨i + 1, hlt, by simp only []; omega, ?_⟩
          conv => whnf
          refine ⟨⟨.refl, .refl, .refl, dle_int (wrap_succ (by omega)), trivial⟩, ⟨.refl, ole_row ?_, trivial⟩, by rfl⟩
          rw [hs, hp, List.append_nil]
    · have : i = l.length := by
        simp at h
        omega
      subst this
      repeat' ((conv => whnf); first | refine And.intro (fun h => h) ?_ | refine dcond_t (by assumption) ?_ | refine dcond_f (by assumption) ?_ | (refine dcond_intro ?_ ?_ <;> intro h) | exact .refl | refine And.intro (by kernel_rfl) ?_ | refine And.intro ⟨fun h => h, fun h => h⟩ ?_ | (refine And.intro ?_ ?_; focus (simp; done)) | fail)
end Go.Proofs.Ytanolkidafeaeaa

set_option linter.unusedSimpArgs false
set_option linter.unusedVariables false
namespace Go.Proofs.Ytanolkidafeaeaa
open Go.Lift
/-! sets of alerts: plain facts -/
theorem less_irr (a : Alr) : lessB a a = false := by simp [lessB]
theorem less_trans {a b c : Alr} (h1 : lessB a b = true) (h2 : lessB b c = true) : lessB a c = true := by
  simp only [lessB, Bool.or_eq_true, Bool.and_eq_true, decide_eq_true_eq] at *
  omega
theorem less_tot {a b : Alr} (h1 : lessB a b = false) (h2 : lessB b a = false) : a.subj = b.subj ∧ a.ring = b.ring := by
  simp only [lessB, Bool.or_eq_false_iff, Bool.and_eq_false_iff, decide_eq_false_iff_not] at *
  omega
def srt (l : List Alr) : Prop := l.Pairwise fun a b => lessB a b = true
theorem srt_adj {l : List Alr} (h : ∀ i (hi : i + 1 < l.length), lessB l[i] l[i + 1] = true) : srt l := by
  rw [srt, List.pairwise_iff_getElem]
  intro i j hi hj hij
  obtain ⟨d, rfl⟩ : ∃ d, j = i + 1 + d := ⟨j - (i + 1), by omega⟩
  clear hij
  induction d with
  | zero => exact h i hj
  | succ d ih =>
    have h1 := ih (by omega)
    have h2 := h (i + 1 + d) (by omega)
    exact less_trans h1 h2
theorem valS_iff {v : View} {l : List Alr} : valS v l = true ↔ viewB v = true ∧ (∀ a ∈ l, valA v a = true) ∧ srt l := by
  unfold valS
  cases hv : viewB v
  · simp
  · rw [Bool.not_true, cond_false, allB_true]
    constructor
    · intro h
      refine ⟨rfl, fun a ha => ?_, srt_adj fun i hi => ?_⟩
      · obtain ⟨i, hi, rfl⟩ := List.getElem_of_mem ha
        have h1 := h i hi
        have hg : l.getD i alr0 = l[i] := by simp [hi]
        unfold okS at h1
        rw [hg, Bool.and_eq_true] at h1
        exact h1.1
      · have h1 := h (i + 1) hi
        have hg : l.getD (i + 1) alr0 = l[i + 1] := by simp [hi]
        have hi0 : i < l.length := by omega
        have hg2 : l.getD (i + 1 - 1) alr0 = l[i] := by simp [hi0]
        unfold okS at h1
        rw [hg, hg2, Bool.and_eq_true, decide_eq_true (show (0 : Int) < ((i + 1 : Nat) : Int) by omega)] at h1
        simpa using h1.2
    · rintro ⟨_, h1, h2⟩ i hi
      have hg : l.getD i alr0 = l[i] := by simp [hi]
      unfold okS
      rw [hg, h1 _ (List.getElem_mem hi), Bool.true_and]
      by_cases h0 : 0 < i
      · have hi0 : i - 1 < l.length := by omega
        have hg2 : l.getD (i - 1) alr0 = l[i - 1] := by simp [hi0]
        have := List.pairwise_iff_getElem.1 h2 (i - 1) i hi0 hi (by omega)
        rw [hg2, this]
        simp
      · rw [decide_eq_false (by omega)]
        rfl
theorem tw_mem {α : Type} {p : α → Bool} {x : α} : ∀ {l : List α}, x ∈ l.takeWhile p → p x = true
  | [], h => by simp at h
  | y :: t, h => by
    rw [List.takeWhile_cons] at h
    split at h
    · rename_i hy
      rcases List.mem_cons.1 h with rfl | h
      · exact hy
      · exact tw_mem h
    · simp at h
theorem tw_before {α : Type} {p : α → Bool} {l : List α} {x : α} (h : x ∈ l.take (l.takeWhile p).length) : p x = true := by
  rw [← List.prefix_iff_eq_take.1 (List.takeWhile_prefix p)] at h
  exact tw_mem h
theorem tw_at {α : Type} {p : α → Bool} : ∀ {l : List α} (h : (l.takeWhile p).length < l.length), p (l[(l.takeWhile p).length]) = false
  | [], h => by simp at h
  | x :: t, h => by
    cases hx : p x
    · simp [List.takeWhile_cons, hx]
    · have h2 : (t.takeWhile p).length < t.length := by
        simpa [List.takeWhile_cons, hx] using h
      have := tw_at (p := p) h2
      simpa [List.takeWhile_cons, hx] using this
theorem ins_srt {l : List Alr} (hs : srt l) (a : Alr) : srt (insR l a).1 ∧ (insR l a).1.length ≤ l.length + 1 ∧ (∀ x, x ∈ (insR l a).1 → x ∈ l ∨ x = a) ∧ (∀ x, x ∈ l → x ∈ (insR l a).1) ∧ (a ∈ (insR l a).1 ∨ ∃ e ∈ l, e.subj = a.subj ∧ e.ring = a.ring) := by
  have hb : ∀ x ∈ l.take (insK l a), lessB x a = true := fun x hx => tw_before (p := fun y => lessB y a) hx
  have hat : ∀ h : insK l a < l.length, lessB l[insK l a] a = false := fun h => tw_at (p := fun y => lessB y a) h
  have hkl : insK l a ≤ l.length := (List.takeWhile_prefix _).length_le
  unfold insR
  generalize insK l a = k at *
  by_cases hk : k < l.length
  · have hg : l.getD k alr0 = l[k] := by simp [hk]
    rw [decide_eq_true (show ((k : Nat) : Int) < (l.length : Int) by omega), hg]
    cases hl : lessB a l[k]
    · simp only [Bool.not_false, Bool.and_self, cond_true]
      have := less_tot (hat hk) hl
      exact ⟨hs, by omega, fun x h => .inl h, fun x h => h, .inr ⟨_, List.getElem_mem hk, this⟩⟩
    · simp only [Bool.not_true, Bool.and_false, cond_false]
      refine ⟨?_, by simp; omega, ?_, ?_, .inl (by simp)⟩
      · rw [srt, List.append_assoc, List.pairwise_append]
        refine ⟨hs.sublist (List.take_sublist _ _), ?_, ?_⟩
        · rw [List.singleton_append, List.pairwise_cons]
          refine ⟨fun y hy => ?_, hs.sublist (List.drop_sublist _ _)⟩
          obtain ⟨j, hj, rfl⟩ := List.getElem_of_mem hy
          rw [List.getElem_drop]
          rw [List.length_drop] at hj
          rcases Nat.eq_zero_or_pos j with rfl | hj0
          · exact hl
          · exact less_trans hl (List.pairwise_iff_getElem.1 hs k (k + j) hk (by omega) (by omega))
        · intro x hx y hy
          rw [List.singleton_append, List.mem_cons] at hy
          have h1 := hb x hx
          rcases hy with rfl | hy
          · exact h1
          · obtain ⟨j, hj, rfl⟩ := List.getElem_of_mem hy
            rw [List.getElem_drop]
            rw [List.length_drop] at hj
            rcases Nat.eq_zero_or_pos j with rfl | hj0
            · exact less_trans h1 hl
            · exact less_trans h1 (less_trans hl (List.pairwise_iff_getElem.1 hs k (k + j) hk (by omega) (by omega)))
      · intro x hx
        simp only [List.append_assoc, List.singleton_append, List.mem_append, List.mem_cons] at hx
        rcases hx with h | h | h
        · exact .inl (List.mem_of_mem_take h)
        · exact .inr h
        · exact .inl (List.mem_of_mem_drop h)
      · intro x hx
        rw [← List.take_append_drop k l, List.mem_append] at hx
        simp only [List.append_assoc, List.singleton_append, List.mem_append, List.mem_cons]
        rcases hx with h | h
        · exact .inl h
        · exact .inr (.inr h)
  · have hkk : k = l.length := by omega
    rw [decide_eq_false (show ¬ ((k : Nat) : Int) < (l.length : Int) by omega), Bool.false_and, cond_false]
    subst hkk
    rw [List.take_length] at hb
    refine ⟨?_, by simp, ?_, ?_, .inl (by simp)⟩
    · rw [List.take_length, List.drop_length, List.append_nil, srt, List.pairwise_append]
      refine ⟨hs, by simp, fun x hx y hy => ?_⟩
      rw [List.mem_singleton] at hy
      subst hy
      exact hb x hx
    · intro x hx
      simpa using hx
    · intro x hx
      simp [hx]
end Go.Proofs.Ytanolkidafeaeaa

set_option linter.unusedSimpArgs false
set_option linter.unusedVariables false
namespace Go.Proofs.Ytanolkidafeaeaa
open Go.Lift
theorem valA_parts {v : View} {a : Alr} (h : valA v a = true) : viewB v = true ∧ a.view = v.num ∧ ranB a = true ∧ a.ring < ((obsR v.mem a.subj).length : Int) ∧ (obsR v.mem a.subj).getD a.ring.toNat 0 = a.obs := by
  unfold valA at h
  cases hc : (!viewB v || !decide (a.view = v.num) || !ranB a)
  · rw [hc, cond_false, Bool.and_eq_true, decide_eq_true_eq, decide_eq_true_eq] at h
    simp only [Bool.or_eq_false_iff, Bool.not_eq_false', decide_eq_true_eq] at hc
    exact ⟨hc.1.1, hc.1.2, hc.2, h.1, h.2⟩
  · rw [hc] at h
    simp at h
theorem val_key {v : View} {a b : Alr} (ha : valA v a = true) (hb : valA v b = true) (h1 : a.subj = b.subj) (h2 : a.ring = b.ring) : a = b := by
  have pa := valA_parts ha
  have pb := valA_parts hb
  obtain ⟨av, ar, ao, sa⟩ := a
  obtain ⟨bv, br, bo, sb⟩ := b
  simp only [] at *
  subst h1 h2
  have e1 : av = bv := pa.2.1.trans pb.2.1.symm
  have e2 : ao = bo := pa.2.2.2.2.symm.trans pb.2.2.2.2
  rw [e1, e2]
def gatR (A : List Alr) (i : Nat) : List Alr := (A.take i).foldl (fun acc a => (insR acc a).1) []
theorem gat_succ {A : List Alr} {i : Nat} (h : i < A.length) : gatR A (i + 1) = (insR (gatR A i) A[i]).1 := by
  unfold gatR
  rw [List.take_succ_eq_append_getElem h, List.foldl_append]
  rfl
theorem gat_ok {v : View} {A : List Alr} (hA : ∀ a ∈ A, valA v a = true) : ∀ i, i ≤ A.length → srt (gatR A i) ∧ (gatR A i).length ≤ i ∧ ∀ x, x ∈ gatR A i ↔ x ∈ A.take i
  | 0, _ => by simp [gatR, srt]
  | i + 1, hi => by
    obtain ⟨h1, h2, h3⟩ := gat_ok hA i (by omega)
    have hil : i < A.length := by omega
    rw [gat_succ hil, List.take_succ_eq_append_getElem hil]
    obtain ⟨g1, g2, g3, g4, g5⟩ := ins_srt h1 A[i]
    refine ⟨g1, by omega, fun x => ?_⟩
    rw [List.mem_append, List.mem_singleton]
    constructor
    · intro hx
      rcases g3 x hx with h | h
      · exact .inl ((h3 x).1 h)
      · exact .inr h
    · rintro (hx | rfl)
      · exact g4 x ((h3 x).2 hx)
      · rcases g5 with h | ⟨e, he, hk1, hk2⟩
        · exact h
        · have hev := hA e (List.mem_of_mem_take ((h3 e).1 he))
          have := val_key hev (hA _ (List.getElem_mem hil)) hk1 hk2
          have hh := g4 e he
          rw [this] at hh
          exact hh
theorem srt_ext {a b : List Alr} (ha : srt a) (hb : srt b) (h : ∀ x, x ∈ a ↔ x ∈ b) : a = b := by
  have na : a.Nodup := ha.imp fun {x y} hxy he => by
    subst he
    rw [less_irr] at hxy
    exact absurd hxy (by simp)
  have nb : b.Nodup := hb.imp fun {x y} hxy he => by
    subst he
    rw [less_irr] at hxy
    exact absurd hxy (by simp)
  have hp : a.Perm b := (List.perm_ext_iff_of_nodup na nb).2 h
  exact hp.eq_of_pairwise (le := fun x y => lessB x y = true) (fun x y _ _ h1 h2 => by
    have := less_trans h1 h2
    rw [less_irr] at this
    exact absurd this (by simp)) ha hb
theorem add_ok {v : View} {l : List Alr} {a : Alr} (hl : valS v l = true) (ha : valA v a = true) : addR v l a = ((insR l a).1, (insR l a).2, 0) := by
  have hp := valA_parts ha
  unfold addR
  rw [hl, ha, hp.2.2.1, decide_eq_true hp.2.1]
  rfl
theorem c_gather (v : View) (hv : v.mem.length ≤ maxLen) (hvw : viewB v = true) (A : List Alr) (hA : ∀ a ∈ A, valA v a = true) (hl : A.length ≤ 1000) : Ret Try.prog 10 [.agg (viewE v), .lst 4 (A.map alE) false] (.tup [.lst 4 ((gatR A A.length).map alE) false, .v (.bool true)]) := by
  refine ret_of_body (fn := Try.f10) (c := Try.f10.body.getD .skip) hm hT (by kernel_rfl) Try.func10 (by kernel_rfl) (by kernel_rfl) (by kernel_rfl) (by kernel_rfl) ?_
  repeat' ((conv => whnf); first | refine And.intro (fun h => h) ?_ | refine dcond_t (by assumption) ?_ | refine dcond_f (by assumption) ?_ | (refine dcond_intro ?_ ?_ <;> intro h) | exact .refl | refine And.intro (by kernel_rfl) ?_ | refine And.intro ⟨fun h => h, fun h => h⟩ ?_ | (refine And.intro ?_ ?_; focus (simp; done)) | fail)
  all_goals (conv => whnf)
  refine ⟨Nat, fun i => ⟨[(1, .lst 4 (A.map alE) false), (2, .lp 0 0), (6, .lst 4 ((gatR A i).map alE) false), (7, i64 i)], [.cells 24 (viewE v)]⟩, fun i => i ≤ A.length, fun i => A.length - i, [], ⟨0, Nat.zero_le _, ?_⟩, ?_⟩
  · conv => whnf
    exact ⟨⟨.refl, .refl, .nl, .refl, trivial⟩, ⟨.refl, trivial⟩, by rfl⟩
  · intro i hi
    repeat' ((conv => whnf); first | refine And.intro (fun h => h) ?_ | refine dcond_t (by assumption) ?_ | refine dcond_f (by assumption) ?_ | (refine dcond_intro ?_ ?_ <;> intro h) | exact .refl | refine And.intro (by kernel_rfl) ?_ | refine And.intro ⟨fun h => h, fun h => h⟩ ?_ | (refine And.intro ?_ ?_; focus (simp; done)) | fail)
    · have hlt : i < A.length := by simpa using h
      clear h
      obtain ⟨h1, h2, h3⟩ := gat_ok hA i hi
      have ha := hA A[i] (List.getElem_mem hlt)
      have hS : valS v (gatR A i) = true := valS_iff.2 ⟨hvw, fun a ha => hA a (List.mem_of_mem_take ((h3 a).1 ha)), h1⟩
      have e := c_alerts_Add v hv (gatR A i) (by omega) A[i]
      rw [add_ok hS ha] at e
      have hs := gat_succ hlt
      rw [← hs] at e
      generalize (insR (gatR A i) A[i]).2 = fl at e
      obtain ⟨z, hz⟩ : ∃ z : Int, z = 0 := ⟨0, rfl⟩
      simp only [] at e
      rw [← hz] at e
      repeat' ((conv => whnf); first | refine And.intro (fun h => h) ?_ | refine dcond_t (by assumption) ?_ | refine dcond_f (by assumption) ?_ | (refine dcond_intro ?_ ?_ <;> intro h) | exact .refl | refine And.intro (by kernel_rfl) ?_ | refine And.intro ⟨fun h => h, fun h => h⟩ ?_ | refine ⟨_, _, And.intro ⟨rfl, get_map hlt⟩ ?_⟩ | refine .inl ⟨_, _, DleAll_refl _, e, ?_⟩ | refine ⟨_, _, DleAll_refl _, fun _ => e, ?_⟩ | refine ⟨_, _, DleAll_refl _, e, ?_⟩ | (refine And.intro ?_ ?_; focus (simp; done)) | fail)
      · exfalso
        simp [hz] at h
      · conv => whnf
        refine ⟨i + 1, hlt, by simp only []; omega, ?_⟩
        conv => whnf
        exact ⟨⟨.refl, .refl, .refl, dle_int (wrap_succ (by omega)), trivial⟩, ⟨.refl, trivial⟩, by rfl⟩
    · have : i = A.length := by
        simp at h
        omega
      subst this
      repeat' ((conv => whnf); first | refine And.intro (fun h => h) ?_ | refine dcond_t (by assumption) ?_ | refine dcond_f (by assumption) ?_ | (refine dcond_intro ?_ ?_ <;> intro h) | exact .refl | refine And.intro (by kernel_rfl) ?_ | refine And.intro ⟨fun h => h, fun h => h⟩ ?_ | (refine And.intro ?_ ?_; focus (simp; done)) | fail)
end Go.Proofs.Ytanolkidafeaeaa

set_option linter.unusedSimpArgs false
set_option linter.unusedVariables false
namespace Go.Proofs.Ytanolkidafeaeaa
open Go.Lift
theorem c_ref6_Same_refl (A : List Alr) (hA : A.length ≤ maxLen) : Ret Try.prog 11 [.lst 4 (A.map alE) false, .lst 4 (A.map alE) false] (.v (.bool true)) := by
  have hA' : A.length ≤ 9223372036854775807 := hA
  refine ret_of_body (fn := Try.f11) (c := Try.f11.body.getD .skip) hm hT (by kernel_rfl) Try.func11 (by kernel_rfl) (by kernel_rfl) (by kernel_rfl) (by kernel_rfl) ?_
  repeat' ((conv => whnf); first | refine And.intro (fun h => h) ?_ | refine dcond_t (by assumption) ?_ | refine dcond_f (by assumption) ?_ | (refine dcond_intro ?_ ?_ <;> intro h) | exact .refl | refine And.intro (by kernel_rfl) ?_ | refine And.intro ⟨fun h => h, fun h => h⟩ ?_ | (refine And.intro ?_ ?_; focus (simp; done)) | fail)
  · simp at h
  · clear h
    repeat' ((conv => whnf); first | refine And.intro (fun h => h) ?_ | refine dcond_t (by assumption) ?_ | refine dcond_f (by assumption) ?_ | (refine dcond_intro ?_ ?_ <;> intro h) | exact .refl | refine And.intro (by kernel_rfl) ?_ | refine And.intro ⟨fun h => h, fun h => h⟩ ?_ | (refine And.intro ?_ ?_; focus (simp; done)) | fail)
    all_goals (conv => whnf)
    refine ⟨Nat, fun i => ⟨[(0, .lst 4 (A.map alE) false), (1, .lst 4 (A.map alE) false), (5, i64 i)], []⟩, fun i => i ≤ A.length, fun i => A.length - i, [], ⟨0, Nat.zero_le _, ?_⟩, ?_⟩
    · exact ⟨by repeat' ((conv => whnf); first | exact trivial | refine And.intro (by (conv => arg 1; whnf); first | (with_reducible exact .refl) | exact dle_int (wrap_succ (by omega)) | exact .refl) ?_), by repeat' ((conv => whnf); first | exact trivial | refine And.intro ?_ ?_ | exact .refl), rfl⟩
    · intro i hi
      repeat' ((conv => whnf); first | refine And.intro (fun h => h) ?_ | refine dcond_t (by assumption) ?_ | refine dcond_f (by assumption) ?_ | (refine dcond_intro ?_ ?_ <;> intro h) | exact .refl | refine And.intro (by kernel_rfl) ?_ | refine And.intro ⟨fun h => h, fun h => h⟩ ?_ | (refine And.intro ?_ ?_; focus (simp; done)) | fail)
      · have hlt : i < A.length := by simpa using h
        clear h
        repeat' ((conv => whnf); first | refine And.intro (fun h => h) ?_ | refine dcond_t (by assumption) ?_ | refine dcond_f (by assumption) ?_ | (refine dcond_intro ?_ ?_ <;> intro h) | exact .refl | refine And.intro (by kernel_rfl) ?_ | refine And.intro ⟨fun h => h, fun h => h⟩ ?_ | refine ⟨_, _, And.intro ⟨rfl, get_map hlt⟩ ?_⟩ | (refine And.intro ?_ ?_; focus (simp; done)) | fail)
        · simp at h
        · conv => whnf
          refine ⟨i + 1, hlt, by simp only []; omega, ?_⟩
          conv => whnf
          exact ⟨⟨.refl, .refl, dle_int (wrap_succ (by omega)), trivial⟩, trivial, by rfl⟩
theorem prv_mem {ms : List Int} {x : Int} {r : Nat} (hv : idsB ms 16 = true) (hr : r < 5) : prvR ms x r ∈ ms := by
  have hO := order_lt (r := (r : Nat)) hv (by omega) (by omega)
  have ho := order_in (ms := ms) (r := (r : Nat)) hv (by omega) (by omega)
  have hol : (orderR ms (r : Nat)).length = ms.length := by rw [ho, sortL_len]
  have h16 := (ids_pw.1 hv).1
  have hmem : ∀ m, m ∈ orderR ms (r : Nat) ↔ m ∈ ms := fun m => by rw [ho, sortL_mem]
  unfold prvR
  generalize orderR ms (r : Nat) = O at *
  exact (hmem _).1 (ahd_min (x := x) hO (by omega) O.length (Nat.le_refl _)).1
theorem obs_five {ms : List Int} {x : Int} (h : (obsR ms x).length = 5) : idsB ms 16 = true ∧ 1 ≤ x ∧ x ≤ 1000 ∧ obsR ms x = (List.range 5).map (prvR ms x) := by
  have ho : obsR ms x = bif !idsB ms 16 || !(decide (1 ≤ x) && decide (x ≤ 1000)) || (decide ((ms.length : Int) = 1) && decide (ms.getD 0 0 = x)) then [] else (List.range 5).map (prvR ms x) := rfl
  cases hc : (!idsB ms 16 || !(decide (1 ≤ x) && decide (x ≤ 1000)) || (decide ((ms.length : Int) = 1) && decide (ms.getD 0 0 = x)))
  · rw [hc, cond_false] at ho
    rw [Bool.or_eq_false_iff, Bool.or_eq_false_iff, Bool.not_eq_false', Bool.not_eq_false', Bool.and_eq_true, decide_eq_true_eq, decide_eq_true_eq] at hc
    exact ⟨hc.1.1, hc.1.2.1, hc.1.2.2, ho⟩
  · rw [hc, cond_true] at ho
    rw [ho] at h
    simp at h
theorem pair_val {v : View} (hvw : viewB v = true) {c : Nat} : ∀ a ∈ pairOf v c, valA v a = true := by
  intro a ha
  unfold pairOf at ha
  cases hd : decide (((obsR v.mem (subOf v c)).length : Int) = 5)
  · rw [hd] at ha
    simp at ha
  · rw [hd, cond_true, List.mem_singleton] at ha
    have h5 : (obsR v.mem (subOf v c)).length = 5 := by
      have := of_decide_eq_true hd
      omega
    obtain ⟨hv, hx1, hx2, ho⟩ := obs_five h5
    have hr : c % 8 % 5 < 5 := Nat.mod_lt _ (by decide)
    have hg : (obsR v.mem (subOf v c)).getD (c % 8 % 5) 0 = prvR v.mem (subOf v c) (c % 8 % 5) := by
      rw [ho]
      simp [hr]
    have hm := (ids_pw.1 hv).2.2 _ (prv_mem (x := subOf v c) hv hr)
    subst ha
    rw [hg]
    unfold valA
    have hran : ranB ⟨v.num, ((c % 8 % 5 : Nat) : Int), prvR v.mem (subOf v c) (c % 8 % 5), subOf v c⟩ = true := by
      simp only [ranB, Bool.and_eq_true, decide_eq_true_eq]
      omega
    rw [hvw, hran]
    simp only [decide_true, Bool.not_true, Bool.or_self, cond_false, Int.toNat_natCast, hg, h5, Bool.and_true]
    exact decide_eq_true (by omega)
theorem pairs_val {v : View} (hvw : viewB v = true) (l : List Nat) (i : Nat) : ∀ a ∈ pairsR v l i, valA v a = true := by
  intro a ha
  unfold pairsR at ha
  obtain ⟨c, _, hc⟩ := List.mem_flatMap.1 ha
  exact pair_val hvw a hc
def eqA (g a : Alr) : Bool := decide (g.view = a.view) && (decide (g.ring = a.ring) && (decide (g.obs = a.obs) && (decide (g.subj = a.subj) && true)))
theorem r3 (v : View) (hv : v.mem.length ≤ maxLen) (l : List Nat) (hl : l.length ≤ maxLen) (hlb : ∀ x ∈ l, x ≤ 65535) (u : Nat) (hu : u ≤ 255) : Ret Try.prog 3 [.agg (viewE v), .lst 1 (l.map bE16) false, .v (.int .u8 u)] (.v (.bool true)) := by
  have e0 := c_ref3_Valid v hv
  refine ret_of_body (fn := Try.f3) (c := Try.f3.body.getD .skip) hm hT (by kernel_rfl) Try.func3 (by kernel_rfl) (by kernel_rfl) (by kernel_rfl) (by kernel_rfl) ?_
  repeat' ((conv => whnf); first | refine And.intro (fun h => h) ?_ | refine dcond_t (by assumption) ?_ | refine dcond_f (by assumption) ?_ | (refine dcond_intro ?_ ?_ <;> intro h) | exact .refl | refine And.intro (by kernel_rfl) ?_ | refine And.intro ⟨fun h => h, fun h => h⟩ ?_ | refine .inl ⟨_, _, DleAll_refl _, c_awake, ?_⟩ | refine ⟨_, _, DleAll_refl _, fun _ => c_awake, ?_⟩ | refine ⟨_, _, DleAll_refl _, c_awake, ?_⟩ | refine .inl ⟨_, _, DleAll_refl _, e0, ?_⟩ | refine ⟨_, _, DleAll_refl _, fun _ => e0, ?_⟩ | refine ⟨_, _, DleAll_refl _, e0, ?_⟩ | (refine And.intro ?_ ?_; focus (simp; done)) | fail)
  have hvw : viewB v = true := by
    simp only [Bool.or_eq_false_iff, Bool.not_eq_false'] at h
    exact h.1
  have hl60 : l.length ≤ 60 := by
    simp only [Bool.or_eq_false_iff, decide_eq_false_iff_not, List.length_map] at h
    omega
  clear h
  have e1 := c_Pairs v hv hvw l hl60 hlb
  have hpl := pairs_len (v := v) (l := l) l.length (Nat.le_refl _)
  have hpv := pairs_val hvw l l.length
  generalize pairsR v l l.length = P at e1 hpl hpv
  have hg1 := c_gather v hv hvw P hpv (by omega)
  have hf1 : ∀ k, k ≤ P.length → (P.drop k ++ P.take k ++ P).length ≤ 120 := fun k hk => by simp; omega
  repeat' ((conv => whnf); first | refine And.intro (fun h => h) ?_ | refine dcond_t (by assumption) ?_ | refine dcond_f (by assumption) ?_ | (refine dcond_intro ?_ ?_ <;> intro h) | exact .refl | refine And.intro (by kernel_rfl) ?_ | refine And.intro ⟨fun h => h, fun h => h⟩ ?_ | refine .inl ⟨_, _, DleAll_refl _, e1, ?_⟩ | refine ⟨_, _, DleAll_refl _, fun _ => e1, ?_⟩ | refine ⟨_, _, DleAll_refl _, e1, ?_⟩ | (refine And.intro ?_ ?_; focus (simp; done)) | fail)
  all_goals (conv => whnf)
  · have hne : ((P.map alE).length : Int) ≠ 0 := by
      have := of_decide_eq_true h
      omega
    have hP : 0 < P.length := by
      rw [List.length_map] at hne
      omega
    have hix : Int.tmod (IntKind.i64.wrap (u : Int)) ((P.map alE).length : Int) = ((u % P.length : Nat) : Int) := by
      rw [List.length_map, wrap_i64 (by omega) (by omega)]
      exact (Int.ofNat_tmod _ _).symm
    have hk : u % P.length ≤ (P.map alE).length := by
      rw [List.length_map]
      exact Nat.le_of_lt (Nat.mod_lt _ hP)
    generalize u % P.length = k at hix hk
    have hkP : k ≤ P.length := by rw [List.length_map] at hk; exact hk
    have hmQ : ∀ x, x ∈ P.drop k ++ P.take k ++ P ↔ x ∈ P := fun x => by
      simp only [List.mem_append]
      exact ⟨fun h => by rcases h with (h | h) | h; exact List.mem_of_mem_drop h; exact List.mem_of_mem_take h; exact h, fun h => .inr h⟩
    have hvQ : ∀ a ∈ P.drop k ++ P.take k ++ P, valA v a = true := fun a ha => hpv a ((hmQ a).1 ha)
    have hlQ := hf1 k hkP
    have hg2 := c_gather v hv hvw (P.drop k ++ P.take k ++ P) hvQ (by omega)
    have hG : gatR (P.drop k ++ P.take k ++ P) (P.drop k ++ P.take k ++ P).length = gatR P P.length := by
      obtain ⟨a1, _, a3⟩ := gat_ok hvQ _ (Nat.le_refl _)
      obtain ⟨b1, _, b3⟩ := gat_ok hpv _ (Nat.le_refl _)
      refine srt_ext a1 b1 fun x => ?_
      rw [a3, b3, List.take_length, List.take_length]
      exact hmQ x
    rw [hG] at hg2
    have hgk := gat_ok hpv _ (Nat.le_refl _)
    have hvS : valS v (gatR P P.length) = true := valS_iff.2 ⟨hvw, fun a ha => hpv a (by have := (hgk.2.2 a).1 ha; rwa [List.take_length] at this), hgk.1⟩
    have hmG : ∀ x ∈ P, x ∈ gatR P P.length := fun x hx => (hgk.2.2 x).2 (by rw [List.take_length]; exact hx)
    have hlG := hgk.2.1
    generalize gatR P P.length = G at hg1 hg2 hvS hmG hlG
    have hsm := c_ref6_Same_refl G (by simp only [maxLen]; omega)
    have hav := c_alerts_Valid v hv G (by simp only [maxLen]; omega)
    rw [hvS] at hav
    clear hgk hG
    obtain ⟨tr, htr⟩ : ∃ b : Bool, b = true := ⟨true, rfl⟩
    rw [← htr] at hg1 hg2 hsm hav
    refine And.intro hne ?_
    repeat' ((conv => whnf); first | refine And.intro (fun h => h) ?_ | refine dcond_t (by assumption) ?_ | refine dcond_f (by assumption) ?_ | (refine dcond_intro ?_ ?_ <;> intro h) | exact .refl | refine And.intro (by kernel_rfl) ?_ | refine And.intro ⟨fun h => h, fun h => h⟩ ?_ | refine .inl ⟨_, _, DleAll_refl _, hg1, ?_⟩ | refine ⟨_, _, DleAll_refl _, fun _ => hg1, ?_⟩ | refine ⟨_, _, DleAll_refl _, hg1, ?_⟩ | refine .inl ⟨[_, .lst 4 ((P.drop k ++ P.take k ++ P).map alE) false], _, ⟨.refl, dle_lst (by simp [List.map_drop, List.map_take]), trivial⟩, hg2, ?_⟩ | refine .inl ⟨_, _, DleAll_refl _, hsm, ?_⟩ | refine ⟨_, _, DleAll_refl _, fun _ => hsm, ?_⟩ | refine ⟨_, _, DleAll_refl _, hsm, ?_⟩ | refine .inl ⟨_, _, DleAll_refl _, hav, ?_⟩ | refine ⟨_, _, DleAll_refl _, fun _ => hav, ?_⟩ | refine ⟨_, _, DleAll_refl _, hav, ?_⟩ | refine ⟨k, And.intro ⟨⟨_, congrArg (fun x => DV.v (Value.int .i64 x)) hix⟩, hk⟩ ?_⟩ | refine ⟨0, k, And.intro ⟨rfl, ⟨_, congrArg (fun x => DV.v (Value.int .i64 x)) hix⟩, Nat.zero_le _, hk⟩ ?_⟩ | refine And.intro (fitsA (by simp <;> omega)) ?_ | (refine And.intro ?_ ?_; focus (simp; done)) | fail)
    all_goals (conv => whnf)
    · simp [htr] at h
    · clear h hg1 hg2 hsm hav hix hk hkP hmQ hvQ hlQ
      refine ⟨Nat, fun i => ⟨[(7, .lst 4 (P.map alE) false), (10, .lst 4 (G.map alE) false), (14, i64 i)], []⟩, fun i => i ≤ P.length, fun i => P.length - i, [], ⟨0, Nat.zero_le _, ?_⟩, ?_⟩
      · conv => whnf
        exact ⟨⟨.refl, .refl, .refl, trivial⟩, trivial, by rfl⟩
      · intro i hi
        repeat' ((conv => whnf); first | refine And.intro (fun h => h) ?_ | refine dcond_t (by assumption) ?_ | refine dcond_f (by assumption) ?_ | (refine dcond_intro ?_ ?_ <;> intro h) | exact .refl | refine And.intro (by kernel_rfl) ?_ | refine And.intro ⟨fun h => h, fun h => h⟩ ?_ | (refine And.intro ?_ ?_; focus (simp; done)) | fail)
        · have hlt : i < P.length := by simpa using h
          clear h
          have hin := hmG P[i] (List.getElem_mem hlt)
          conv => whnf
          refine ⟨Nat, fun j => ⟨[(7, .lst 4 (P.map alE) false), (10, .lst 4 (G.map alE) false), (14, i64 i), (15, .v (.bool ((G.take j).any fun g => eqA g P[i]))), (16, i64 j)], []⟩, fun j => j ≤ G.length, fun j => G.length - j, [], ⟨0, Nat.zero_le _, ?_⟩, ?_⟩
          · conv => whnf
            exact ⟨⟨.refl, .refl, .refl, .refl, .refl, trivial⟩, trivial, by rfl⟩
          · intro j hj
            repeat' ((conv => whnf); first | refine And.intro (fun h => h) ?_ | refine dcond_t (by assumption) ?_ | refine dcond_f (by assumption) ?_ | (refine dcond_intro ?_ ?_ <;> intro h) | exact .refl | refine And.intro (by kernel_rfl) ?_ | refine And.intro ⟨fun h => h, fun h => h⟩ ?_ | (refine And.intro ?_ ?_; focus (simp; done)) | fail)
            · have hjl : j < G.length := by simpa using h
              clear h
              have hs : ((G.take (j + 1)).any fun g => eqA g P[i]) = (((G.take j).any fun g => eqA g P[i]) || eqA G[j] P[i]) := by
                rw [List.take_succ_eq_append_getElem hjl, List.any_append]
                simp
              have heq : eqA G[j] P[i] = (decide (G[j].view = P[i].view) && (decide (G[j].ring = P[i].ring) && (decide (G[j].obs = P[i].obs) && (decide (G[j].subj = P[i].subj) && true)))) := rfl
              generalize ((G.take j).any fun g => eqA g P[i]) = fd at *
              repeat' ((conv => whnf); first | refine And.intro (fun h => h) ?_ | refine dcond_t (by assumption) ?_ | refine dcond_f (by assumption) ?_ | (refine dcond_intro ?_ ?_ <;> intro h) | exact .refl | refine And.intro (by kernel_rfl) ?_ | refine And.intro ⟨fun h => h, fun h => h⟩ ?_ | refine ⟨j, alE (G[j]'hjl), And.intro ⟨fun h => h, fun _ => ⟨rfl, get_map hjl⟩⟩ ?_⟩ | refine ⟨i, alE (P[i]'hlt), And.intro ⟨fun h => h, fun _ => ⟨rfl, get_map hlt⟩⟩ ?_⟩ | refine ⟨j, alE (G[j]'hjl), And.intro ⟨⟨fun h => h, fun h => h⟩, fun _ => ⟨rfl, get_map hjl⟩⟩ ?_⟩ | refine ⟨i, alE (P[i]'hlt), And.intro ⟨⟨fun h => h, fun h => h⟩, fun _ => ⟨rfl, get_map hlt⟩⟩ ?_⟩ | (refine And.intro ?_ ?_; focus (simp; done)) | fail)
              all_goals (conv => whnf)
              refine ⟨j + 1, hjl, by simp only []; omega, ?_⟩
              conv => whnf
              refine ⟨⟨.refl, .refl, .refl, dle_bool ?_, dle_int (wrap_succ (by omega)), trivial⟩, trivial, by rfl⟩
              rw [hs, heq]
            · rename_i h0
              have : j = G.length := by
                simp at h0
                omega
              subst this
              have hfd : ((G.take G.length).any fun g => eqA g P[i]) = true := by
                rw [List.take_length, List.any_eq_true]
                exact ⟨_, hin, by simp [eqA]⟩
              rw [hfd] at h
              simp at h
            · clear h
              conv => whnf
              refine ⟨i + 1, hlt, by simp only []; omega, ?_⟩
              conv => whnf
              exact ⟨⟨.refl, .refl, dle_int (wrap_succ (by omega)), trivial⟩, trivial, by rfl⟩
  · clear h
    obtain ⟨k, hk0⟩ : ∃ k : Nat, k = 0 := ⟨0, rfl⟩
    have hix : (0 : Int) = ((k : Nat) : Int) := by
      rw [hk0]
      rfl
    have hk : k ≤ (P.map alE).length := by omega
    have hkP : k ≤ P.length := by rw [List.length_map] at hk; exact hk
    have hmQ : ∀ x, x ∈ P.drop k ++ P.take k ++ P ↔ x ∈ P := fun x => by
      simp only [List.mem_append]
      exact ⟨fun h => by rcases h with (h | h) | h; exact List.mem_of_mem_drop h; exact List.mem_of_mem_take h; exact h, fun h => .inr h⟩
    have hvQ : ∀ a ∈ P.drop k ++ P.take k ++ P, valA v a = true := fun a ha => hpv a ((hmQ a).1 ha)
    have hlQ := hf1 k hkP
    have hg2 := c_gather v hv hvw (P.drop k ++ P.take k ++ P) hvQ (by omega)
    have hG : gatR (P.drop k ++ P.take k ++ P) (P.drop k ++ P.take k ++ P).length = gatR P P.length := by
      obtain ⟨a1, _, a3⟩ := gat_ok hvQ _ (Nat.le_refl _)
      obtain ⟨b1, _, b3⟩ := gat_ok hpv _ (Nat.le_refl _)
      refine srt_ext a1 b1 fun x => ?_
      rw [a3, b3, List.take_length, List.take_length]
      exact hmQ x
    rw [hG] at hg2
    have hgk := gat_ok hpv _ (Nat.le_refl _)
    have hvS : valS v (gatR P P.length) = true := valS_iff.2 ⟨hvw, fun a ha => hpv a (by have := (hgk.2.2 a).1 ha; rwa [List.take_length] at this), hgk.1⟩
    have hmG : ∀ x ∈ P, x ∈ gatR P P.length := fun x hx => (hgk.2.2 x).2 (by rw [List.take_length]; exact hx)
    have hlG := hgk.2.1
    generalize gatR P P.length = G at hg1 hg2 hvS hmG hlG
    have hsm := c_ref6_Same_refl G (by simp only [maxLen]; omega)
    have hav := c_alerts_Valid v hv G (by simp only [maxLen]; omega)
    rw [hvS] at hav
    clear hgk hG
    obtain ⟨tr, htr⟩ : ∃ b : Bool, b = true := ⟨true, rfl⟩
    rw [← htr] at hg1 hg2 hsm hav
    repeat' ((conv => whnf); first | refine And.intro (fun h => h) ?_ | refine dcond_t (by assumption) ?_ | refine dcond_f (by assumption) ?_ | (refine dcond_intro ?_ ?_ <;> intro h) | exact .refl | refine And.intro (by kernel_rfl) ?_ | refine And.intro ⟨fun h => h, fun h => h⟩ ?_ | refine .inl ⟨_, _, DleAll_refl _, hg1, ?_⟩ | refine ⟨_, _, DleAll_refl _, fun _ => hg1, ?_⟩ | refine ⟨_, _, DleAll_refl _, hg1, ?_⟩ | refine .inl ⟨[_, .lst 4 ((P.drop k ++ P.take k ++ P).map alE) false], _, ⟨.refl, dle_lst (by simp [List.map_drop, List.map_take]), trivial⟩, hg2, ?_⟩ | refine .inl ⟨_, _, DleAll_refl _, hsm, ?_⟩ | refine ⟨_, _, DleAll_refl _, fun _ => hsm, ?_⟩ | refine ⟨_, _, DleAll_refl _, hsm, ?_⟩ | refine .inl ⟨_, _, DleAll_refl _, hav, ?_⟩ | refine ⟨_, _, DleAll_refl _, fun _ => hav, ?_⟩ | refine ⟨_, _, DleAll_refl _, hav, ?_⟩ | refine ⟨k, And.intro ⟨⟨_, congrArg (fun x => DV.v (Value.int .i64 x)) hix⟩, hk⟩ ?_⟩ | refine ⟨0, k, And.intro ⟨rfl, ⟨_, congrArg (fun x => DV.v (Value.int .i64 x)) hix⟩, Nat.zero_le _, hk⟩ ?_⟩ | refine And.intro (fitsA (by simp <;> omega)) ?_ | (refine And.intro ?_ ?_; focus (simp; done)) | fail)
    all_goals (conv => whnf)
    · simp [htr] at h
    · clear h hg1 hg2 hsm hav hix hk hkP hmQ hvQ hlQ
      refine ⟨Nat, fun i => ⟨[(7, .lst 4 (P.map alE) false), (10, .lst 4 (G.map alE) false), (14, i64 i)], []⟩, fun i => i ≤ P.length, fun i => P.length - i, [], ⟨0, Nat.zero_le _, ?_⟩, ?_⟩
      · conv => whnf
        exact ⟨⟨.refl, .refl, .refl, trivial⟩, trivial, by rfl⟩
      · intro i hi
        repeat' ((conv => whnf); first | refine And.intro (fun h => h) ?_ | refine dcond_t (by assumption) ?_ | refine dcond_f (by assumption) ?_ | (refine dcond_intro ?_ ?_ <;> intro h) | exact .refl | refine And.intro (by kernel_rfl) ?_ | refine And.intro ⟨fun h => h, fun h => h⟩ ?_ | (refine And.intro ?_ ?_; focus (simp; done)) | fail)
        · have hlt : i < P.length := by simpa using h
          clear h
          have hin := hmG P[i] (List.getElem_mem hlt)
          conv => whnf
          refine ⟨Nat, fun j => ⟨[(7, .lst 4 (P.map alE) false), (10, .lst 4 (G.map alE) false), (14, i64 i), (15, .v (.bool ((G.take j).any fun g => eqA g P[i]))), (16, i64 j)], []⟩, fun j => j ≤ G.length, fun j => G.length - j, [], ⟨0, Nat.zero_le _, ?_⟩, ?_⟩
          · conv => whnf
            exact ⟨⟨.refl, .refl, .refl, .refl, .refl, trivial⟩, trivial, by rfl⟩
          · intro j hj
            repeat' ((conv => whnf); first | refine And.intro (fun h => h) ?_ | refine dcond_t (by assumption) ?_ | refine dcond_f (by assumption) ?_ | (refine dcond_intro ?_ ?_ <;> intro h) | exact .refl | refine And.intro (by kernel_rfl) ?_ | refine And.intro ⟨fun h => h, fun h => h⟩ ?_ | (refine And.intro ?_ ?_; focus (simp; done)) | fail)
            · have hjl : j < G.length := by simpa using h
              clear h
              have hs : ((G.take (j + 1)).any fun g => eqA g P[i]) = (((G.take j).any fun g => eqA g P[i]) || eqA G[j] P[i]) := by
                rw [List.take_succ_eq_append_getElem hjl, List.any_append]
                simp
              have heq : eqA G[j] P[i] = (decide (G[j].view = P[i].view) && (decide (G[j].ring = P[i].ring) && (decide (G[j].obs = P[i].obs) && (decide (G[j].subj = P[i].subj) && true)))) := rfl
              generalize ((G.take j).any fun g => eqA g P[i]) = fd at *
              repeat' ((conv => whnf); first | refine And.intro (fun h => h) ?_ | refine dcond_t (by assumption) ?_ | refine dcond_f (by assumption) ?_ | (refine dcond_intro ?_ ?_ <;> intro h) | exact .refl | refine And.intro (by kernel_rfl) ?_ | refine And.intro ⟨fun h => h, fun h => h⟩ ?_ | refine ⟨j, alE (G[j]'hjl), And.intro ⟨fun h => h, fun _ => ⟨rfl, get_map hjl⟩⟩ ?_⟩ | refine ⟨i, alE (P[i]'hlt), And.intro ⟨fun h => h, fun _ => ⟨rfl, get_map hlt⟩⟩ ?_⟩ | refine ⟨j, alE (G[j]'hjl), And.intro ⟨⟨fun h => h, fun h => h⟩, fun _ => ⟨rfl, get_map hjl⟩⟩ ?_⟩ | refine ⟨i, alE (P[i]'hlt), And.intro ⟨⟨fun h => h, fun h => h⟩, fun _ => ⟨rfl, get_map hlt⟩⟩ ?_⟩ | (refine And.intro ?_ ?_; focus (simp; done)) | fail)
              all_goals (conv => whnf)
              refine ⟨j + 1, hjl, by simp only []; omega, ?_⟩
              conv => whnf
              refine ⟨⟨.refl, .refl, .refl, dle_bool ?_, dle_int (wrap_succ (by omega)), trivial⟩, trivial, by rfl⟩
              rw [hs, heq]
            · rename_i h0
              have : j = G.length := by
                simp at h0
                omega
              subst this
              have hfd : ((G.take G.length).any fun g => eqA g P[i]) = true := by
                rw [List.take_length, List.any_eq_true]
                exact ⟨_, hin, by simp [eqA]⟩
              rw [hfd] at h
              simp at h
            · clear h
              conv => whnf
              refine ⟨i + 1, hlt, by simp only []; omega, ?_⟩
              conv => whnf
              exact ⟨⟨.refl, .refl, dle_int (wrap_succ (by omega)), trivial⟩, trivial, by rfl⟩
theorem dat_u16s {n : Nat} {r : List DV} (h : Dat tt (n + 2) 25 r) : ∃ l : List Nat, r = [.lst 1 (l.map bE16) false] ∧ l.length ≤ maxLen ∧ ∀ x ∈ l, x ≤ 65535 := by
  obtain ⟨es, rfl, hl, hes⟩ := h
  obtain ⟨d, rfl, hd⟩ := list_data (f := bE16) (Q := fun x => x ≤ 65535) (fun r hr => by
    obtain ⟨i, rfl, hi⟩ := hes r hr
    have hb := bounds_u16 (by exact hi)
    exact ⟨i.toNat, by simp only [bE16]; rw [Int.toNat_of_nonneg (by omega)], by omega⟩)
  exact ⟨d, rfl, by simpa using hl, hd⟩
theorem law3 (dvs : List DV) (h : DatAll tt 5 [24, 25, 5] dvs) : Ret Try.prog 3 dvs (.v (.bool true)) := by
  obtain ⟨b, _, rfl, hb, a, _, rfl, ha, _, _, rfl, ⟨s, rfl, hs⟩, rfl⟩ := h
  obtain ⟨v, rfl, hv⟩ := dat_view (n := 2) hb
  obtain ⟨l, rfl, hl, hlb⟩ := dat_u16s (n := 3) ha
  have h1 := bounds_u8 (by exact hs)
  obtain ⟨s, rfl⟩ := Int.eq_ofNat_of_zero_le (a := s) (by omega)
  exact r3 v hv l hl hlb s (by omega)
end Go.Proofs.Ytanolkidafeaeaa

set_option linter.unusedSimpArgs false
set_option linter.unusedVariables false
namespace Go.Proofs.Ytanolkidafeaeaa
open Go.Lift
/-! AlertsBack: plain facts -/
theorem uint_cut : ∀ (k v i m : Nat) (acc : Int), m < (lebF k v).length → i + k = 9 → uintG ((lebF k v).take m) i acc = (0, 0, 2)
  | _, _, _, 0, _, _, _ => by rw [List.take_zero, uintG]
  | 0, v, i, m + 1, acc, h, _ => by
    rw [lebF] at h
    simp at h
  | k + 1, v, i, m + 1, acc, h, hi => by
    rw [lebF] at h ⊢
    by_cases h1 : v < 128
    · rw [if_pos h1] at h
      simp at h
    · rw [if_neg h1] at h ⊢
      have hbad : uBad i (v % 128 + 128) = false := by
        unfold uBad
        rw [decide_eq_false (show ¬ ((i : Int) = 9) by omega), decide_eq_false (show ¬ (((v % 128 + 128 : Nat) : Int) = 0) by omega)]
        simp
      rw [List.take_succ_cons, uintG, hbad, cond_false, decide_eq_false (show ¬ (((v % 128 + 128 : Nat) : Int) < 128) by omega), cond_false]
      exact uint_cut k (v / 128) (i + 1) m _ (by simpa using h) (by omega)
theorem leb_pos (v : Nat) : 0 < (leb v).length := by
  unfold leb
  rw [lebF]
  split <;> simp
def oneE (a : Alr) : List Nat := leb a.subj.toNat ++ leb a.ring.toNat
theorem val_obs {v : View} {a : Alr} (ha : valA v a = true) : 1 ≤ a.subj ∧ a.subj ≤ 1000 ∧ 0 ≤ a.ring ∧ a.ring < 5 ∧ a.view = v.num ∧ (obsR v.mem a.subj).length ≠ 0 ∧ (obsR v.mem a.subj).getD a.ring.toNat 0 = a.obs := by
  obtain ⟨_, h1, h2, h3, h4⟩ := valA_parts ha
  simp only [ranB, Bool.and_eq_true, decide_eq_true_eq] at h2
  generalize obsR v.mem a.subj = R at *
  exact ⟨by omega, by omega, by omega, by omega, h1, by omega, h4⟩
theorem decR_ok {v : View} {l : List Nat} {s r : Int} {n1 n2 : Nat} (e1 : uintG l 0 0 = (s, (n1 : Int), 0)) (e2 : uintG (l.drop n1) 0 0 = (r, (n2 : Int), 0)) (c1 : (decide (s < 1) || decide (1000 < s) || decide (5 ≤ r)) = false) (c2 : (obsR v.mem s).length ≠ 0) :
    decR v l = (⟨v.num, r, (obsR v.mem s).getD r.toNat 0, s⟩, (n1 : Int) + (n2 : Int), 0) := by
  have e2' : uintG (l.drop (uintG l 0 0).2.1.toNat) 0 0 = (r, (n2 : Int), 0) := by
    rw [e1]
    exact e2
  have c2' : decide (((obsR v.mem s).length : Int) = 0) = false := decide_eq_false (by omega)
  unfold decR
  rw [e2', e1]
  generalize obsR v.mem s = R at *
  show (bif (decide (s < 1) || decide (1000 < s) || decide (5 ≤ r)) then (alr0, (0 : Int), (3 : Int)) else bif decide ((R.length : Int) = 0) then (alr0, 0, 3) else (⟨v.num, r, R.getD r.toNat 0, s⟩, (n1 : Int) + (n2 : Int), 0)) = _
  rw [c1, c2']
  rfl
theorem decR_bad1 {v : View} {l : List Nat} (e1 : uintG l 0 0 = (0, 0, 2)) : (decR v l).2.2 = 2 := by
  unfold decR
  rw [e1]
  rfl
theorem decR_bad2 {v : View} {l : List Nat} {s : Int} {n1 : Nat} (e1 : uintG l 0 0 = (s, (n1 : Int), 0)) (e2 : uintG (l.drop n1) 0 0 = (0, 0, 2)) : (decR v l).2.2 = 2 := by
  have e2' : uintG (l.drop (uintG l 0 0).2.1.toNat) 0 0 = (0, 0, 2) := by
    rw [e1]
    exact e2
  unfold decR
  rw [e2', e1]
  rfl
theorem dec_one {v : View} {a : Alr} (ha : valA v a = true) (rest : List Nat) : decR v (oneE a ++ rest) = (a, (((oneE a).length : Nat) : Int), 0) := by
  obtain ⟨h1, h2, h3, h4, h5, h6, h7⟩ := val_obs ha
  have e1 := uint_back (v := a.subj.toNat) (by omega) (leb a.ring.toNat ++ rest)
  have e2 := uint_back (v := a.ring.toNat) (by omega) rest
  have hs : ((a.subj.toNat : Nat) : Int) = a.subj := by omega
  have hr : ((a.ring.toNat : Nat) : Int) = a.ring := by omega
  rw [hs] at e1
  rw [hr] at e2
  have hl : oneE a ++ rest = leb a.subj.toNat ++ (leb a.ring.toNat ++ rest) := by rw [oneE, List.append_assoc]
  have hd : (leb a.subj.toNat ++ (leb a.ring.toNat ++ rest)).drop (leb a.subj.toNat).length = leb a.ring.toNat ++ rest := List.drop_left
  have hlen : (((oneE a).length : Nat) : Int) = (((leb a.subj.toNat).length : Nat) : Int) + (((leb a.ring.toNat).length : Nat) : Int) := by
    rw [oneE, List.length_append]
    omega
  rw [hlen, hl, decR_ok e1 (by rw [hd]; exact e2) (by
    rw [Bool.or_eq_false_iff, Bool.or_eq_false_iff]
    exact ⟨⟨decide_eq_false (by omega), decide_eq_false (by omega)⟩, decide_eq_false (by omega)⟩) h6, h7, ← h5]
theorem dec_cut {v : View} {a : Alr} (ha : valA v a = true) {m : Nat} (hm : m < (oneE a).length) : (decR v ((oneE a).take m)).2.2 = 2 := by
  unfold oneE at hm ⊢
  obtain ⟨h1, h2, h3, h4, h5, h6, h7⟩ := val_obs ha
  have c1 : m < (leb a.subj.toNat).length → uintG ((leb a.subj.toNat).take m) 0 0 = (0, 0, 2) := fun h => uint_cut 9 a.subj.toNat 0 m 0 h rfl
  have c2 : ∀ m, m < (leb a.ring.toNat).length → uintG ((leb a.ring.toNat).take m) 0 0 = (0, 0, 2) := fun m h => uint_cut 9 a.ring.toNat 0 m 0 h rfl
  have e1 := fun rest => uint_back (v := a.subj.toNat) (by omega) rest
  rw [List.length_append] at hm
  generalize leb a.ring.toNat = B at *
  generalize leb a.subj.toNat = A at *
  by_cases hA : m < A.length
  · rw [List.take_append_of_le_length (by omega)]
    exact decR_bad1 (c1 hA)
  · rw [List.take_append, List.take_of_length_le (by omega)]
    exact decR_bad2 (e1 _) (by rw [List.drop_left]; exact c2 _ (by omega))
theorem enc_drop {l : List Alr} {i : Nat} (h : i < l.length) : ∀ j, i < j → j ≤ l.length → ∃ r, encAt l j = encAt l i ++ (oneE l[i] ++ r)
  | 0, h1, _ => by omega
  | j + 1, h1, h2 => by
    rw [enc_succ (by omega)]
    rcases Nat.lt_succ_iff_lt_or_eq.1 h1 with h1 | rfl
    · obtain ⟨r, hr⟩ := enc_drop h j h1 (by omega)
      exact ⟨r ++ (leb l[j].subj.toNat ++ leb l[j].ring.toNat), by rw [hr]; simp [List.append_assoc]⟩
    · exact ⟨[], by simp [oneE, List.append_assoc]⟩
theorem enc_mono {l : List Alr} {i : Nat} (h : i ≤ l.length) : (encAt l i).length ≤ (encAt l l.length).length := by
  rcases Nat.lt_or_eq_of_le h with h | rfl
  · obtain ⟨r, hr⟩ := enc_drop h l.length h (Nat.le_refl _)
    rw [hr, List.length_append]
    omega
  · exact Nat.le_refl _
theorem last_less {l : List Alr} (hs : srt l) {i : Nat} (hi : i < l.length) : (decide (0 < ((l.take i).length : Int)) && !lessB ((l.take i).getD ((l.take i).length - 1) alr0) l[i]) = false := by
  by_cases h0 : 0 < i
  · have hlen : (l.take i).length = i := by simp; omega
    have h1 : i - 1 < l.length := by omega
    have h2 : i - 1 < (l.take i).length := by omega
    have hg : (l.take i).getD (i - 1) alr0 = l[i - 1] := by
      rw [List.getD_eq_getElem?_getD, List.getElem?_eq_getElem h2, Option.getD_some, List.getElem_take]
    have := List.pairwise_iff_getElem.1 hs (i - 1) i h1 hi (by omega)
    rw [hlen, hg, this]
    simp
  · have : i = 0 := by omega
    subst this
    simp
theorem decG_back {v : View} {l : List Alr} (hv : ∀ a ∈ l, valA v a = true) (hs : srt l) (rest : List Nat) : ∀ k i, k + i = l.length → decG v (encAt l l.length ++ rest) k (l.take i) (encAt l i).length = (l, (((encAt l l.length).length : Nat) : Int), 0)
  | 0, i, h => by
    have : i = l.length := by omega
    subst this
    rw [decG, List.take_length]
  | k + 1, i, h => by
    have hi : i < l.length := by omega
    obtain ⟨r, hr⟩ := enc_drop hi l.length hi (Nat.le_refl _)
    have hd : (encAt l l.length ++ rest).drop (encAt l i).length = oneE l[i] ++ (r ++ rest) := by
      rw [hr, List.append_assoc, List.drop_left, List.append_assoc]
    have h1 := dec_one (hv _ (List.getElem_mem hi)) (r ++ rest)
    have h2 := last_less hs hi
    have he : decE v (encAt l l.length ++ rest) (l.take i) (encAt l i).length = 0 := by
      unfold decE
      rw [hd, h1]
      show (bif (decide ((0 : Int) = 0) && decide (0 < ((l.take i).length : Int))) && !lessB ((l.take i).getD ((l.take i).length - 1) alr0) l[i] then (3 : Int) else 0) = 0
      rw [decide_eq_true rfl, Bool.true_and, h2]
      rfl
    have ih := decG_back hv hs rest k (i + 1) (by omega)
    have ht : l.take i ++ [l[i]] = l.take (i + 1) := (List.take_succ_eq_append_getElem hi).symm
    have hl : (encAt l i).length + (oneE l[i]).length = (encAt l (i + 1)).length := by
      rw [enc_succ hi, oneE]
      simp only [List.length_append]
      omega
    rw [decG, he, hd, h1]
    simp only [Int.toNat_natCast]
    rw [ht, hl, ih]
    rfl
theorem decG_cut {v : View} {l : List Alr} (hv : ∀ a ∈ l, valA v a = true) (hs : srt l) {c : Nat} (hc : c < (encAt l l.length).length) : ∀ k i, k + i = l.length → (encAt l i).length ≤ c → decG v ((encAt l l.length).take c) k (l.take i) (encAt l i).length = ([], 0, 2)
  | 0, i, h, hb => by
    have : i = l.length := by omega
    subst this
    omega
  | k + 1, i, h, hb => by
    have hi : i < l.length := by omega
    obtain ⟨r, hr⟩ := enc_drop hi l.length hi (Nat.le_refl _)
    have hva := hv _ (List.getElem_mem hi)
    have hd : ((encAt l l.length).take c).drop (encAt l i).length = (oneE l[i] ++ r).take (c - (encAt l i).length) := by
      rw [hr, List.drop_take, List.drop_left]
    have hl : (encAt l i).length + (oneE l[i]).length = (encAt l (i + 1)).length := by
      rw [enc_succ hi, oneE]
      simp only [List.length_append]
      omega
    by_cases hcut : c - (encAt l i).length < (oneE l[i]).length
    · rw [List.take_append_of_le_length (by omega)] at hd
      have h1 := dec_cut hva hcut
      have he : decE v ((encAt l l.length).take c) (l.take i) (encAt l i).length = 2 := by
        unfold decE
        rw [hd, h1]
        rfl
      rw [decG, he]
      rfl
    · rw [List.take_append, List.take_of_length_le (l := oneE l[i]) (by omega)] at hd
      have h1 := dec_one hva (r.take (c - (encAt l i).length - (oneE l[i]).length))
      have h2 := last_less hs hi
      have he : decE v ((encAt l l.length).take c) (l.take i) (encAt l i).length = 0 := by
        unfold decE
        rw [hd, h1]
        show (bif (decide ((0 : Int) = 0) && decide (0 < ((l.take i).length : Int))) && !lessB ((l.take i).getD ((l.take i).length - 1) alr0) l[i] then (3 : Int) else 0) = 0
        rw [decide_eq_true rfl, Bool.true_and, h2]
        rfl
      have ih := decG_cut hv hs hc k (i + 1) (by omega) (by omega)
      have ht : l.take i ++ [l[i]] = l.take (i + 1) := (List.take_succ_eq_append_getElem hi).symm
      rw [decG, he, hd, h1]
      simp only [Int.toNat_natCast]
      rw [ht, hl, ih]
      rfl
theorem enc_split (l : List Alr) : ∃ r, encAt l l.length = leb l.length ++ r := ⟨_, rfl⟩
theorem enc_zero (l : List Alr) : encAt l 0 = leb l.length := by simp [encAt]
theorem decode_back {v : View} {l : List Alr} (hS : valS v l = true) (hl : l.length ≤ 5000) (rest : List Nat) : decodeR v (encAt l l.length ++ rest) = (l, (((encAt l l.length).length : Nat) : Int), 0) := by
  obtain ⟨hv, ha, hs⟩ := valS_iff.1 hS
  obtain ⟨r, hr⟩ := enc_split l
  have e1 := uint_back (v := l.length) (by omega) (r ++ rest)
  rw [← List.append_assoc, ← hr] at e1
  have hg := decG_back ha hs rest l.length 0 rfl
  rw [List.take_zero, enc_zero] at hg
  unfold decodeR
  rw [hv, e1]
  simp only [Int.toNat_natCast]
  rw [hg, decide_eq_false (show ¬ (5000 < ((l.length : Nat) : Int)) by omega)]
  rfl
theorem decode_cut {v : View} {l : List Alr} (hS : valS v l = true) (hl : l.length ≤ 5000) {c : Nat} (hc : c < (encAt l l.length).length) : decodeR v ((encAt l l.length).take c) = ([], 0, 2) := by
  obtain ⟨hv, ha, hs⟩ := valS_iff.1 hS
  obtain ⟨r, hr⟩ := enc_split l
  by_cases h0 : c < (leb l.length).length
  · have e1 := uint_cut 9 l.length 0 c 0 h0 rfl
    change uintG ((leb l.length).take c) 0 0 = _ at e1
    have ht : (encAt l l.length).take c = (leb l.length).take c := by rw [hr, List.take_append_of_le_length (by omega)]
    unfold decodeR
    rw [hv, ht, e1]
    rfl
  · have e1 := uint_back (v := l.length) (by omega) (r.take (c - (leb l.length).length))
    have ht : (encAt l l.length).take c = leb l.length ++ r.take (c - (leb l.length).length) := by rw [hr, List.take_append, List.take_of_length_le (by omega)]
    have hg := decG_cut ha hs hc l.length 0 rfl (by rw [enc_zero]; omega)
    rw [List.take_zero, enc_zero] at hg
    rw [← ht] at e1
    unfold decodeR
    rw [hv, e1]
    simp only [Int.toNat_natCast]
    rw [hg, decide_eq_false (show ¬ (5000 < ((l.length : Nat) : Int)) by omega)]
    rfl
theorem enc_val {v : View} {l : List Alr} (hS : valS v l = true) : encR v l = encAt l l.length := by
  unfold encR
  rw [hS]
  rfl
theorem enc_pos (l : List Alr) : 0 < (encAt l l.length).length := by
  obtain ⟨r, hr⟩ := enc_split l
  rw [hr, List.length_append]
  have := leb_pos l.length
  omega
/-- what gather returns on pairs: a set, small and valid -/
theorem gat_pairs {v : View} (hvw : viewB v = true) (l : List Nat) : valS v (gatR (pairsR v l l.length) (pairsR v l l.length).length) = true ∧ (gatR (pairsR v l l.length) (pairsR v l l.length).length).length ≤ l.length := by
  have hpl := pairs_len (v := v) (l := l) l.length (Nat.le_refl _)
  have hpv := pairs_val hvw l l.length
  generalize pairsR v l l.length = P at hpl hpv
  have hgk := gat_ok hpv _ (Nat.le_refl _)
  exact ⟨valS_iff.2 ⟨hvw, fun a ha => hpv a (by have := (hgk.2.2 a).1 ha; rwa [List.take_length] at this), hgk.1⟩, by omega⟩
end Go.Proofs.Ytanolkidafeaeaa

set_option linter.unusedSimpArgs false
set_option linter.unusedVariables false
namespace Go.Proofs.Ytanolkidafeaeaa
open Go.Lift
theorem r4 (v : View) (hv : v.mem.length ≤ maxLen) (l : List Nat) (hl : l.length ≤ maxLen) (hlb : ∀ x ∈ l, x ≤ 65535) (u : Nat) (hu : u ≤ 255) (bh : List Nat) (hbh : bh.length ≤ maxLen) : Ret Try.prog 4 [.agg (viewE v), .lst 1 (l.map bE16) false, .v (.int .u8 u), .lst 1 (bh.map byteI) false] (.v (.bool true)) := by
  have e0 := c_ref3_Valid v hv
  refine ret_of_body (fn := Try.f4) (c := Try.f4.body.getD .skip) hm hT (by kernel_rfl) Try.func4 (by kernel_rfl) (by kernel_rfl) (by kernel_rfl) (by kernel_rfl) ?_
  repeat' ((conv => whnf); first | refine And.intro (fun h => h) ?_ | refine dcond_t (by assumption) ?_ | refine dcond_f (by assumption) ?_ | (refine dcond_intro ?_ ?_ <;> intro h) | exact .refl | refine And.intro (by kernel_rfl) ?_ | refine And.intro ⟨fun h => h, fun h => h⟩ ?_ | refine .inl ⟨_, _, DleAll_refl _, c_awake, ?_⟩ | refine ⟨_, _, DleAll_refl _, fun _ => c_awake, ?_⟩ | refine ⟨_, _, DleAll_refl _, c_awake, ?_⟩ | refine .inl ⟨_, _, DleAll_refl _, e0, ?_⟩ | refine ⟨_, _, DleAll_refl _, fun _ => e0, ?_⟩ | refine ⟨_, _, DleAll_refl _, e0, ?_⟩ | (refine And.intro ?_ ?_; focus (simp; done)) | fail)
  have hvw : viewB v = true := by
    simp only [Bool.or_eq_false_iff, Bool.not_eq_false'] at h
    exact h.1.1
  have hl60 : l.length ≤ 60 := by
    simp only [Bool.or_eq_false_iff, decide_eq_false_iff_not, List.length_map] at h
    omega
  have hb50 : bh.length ≤ 50 := by
    simp only [Bool.or_eq_false_iff, decide_eq_false_iff_not, List.length_map] at h
    omega
  clear h
  have e1 := c_Pairs v hv hvw l hl60 hlb
  have hpl := pairs_len (v := v) (l := l) l.length (Nat.le_refl _)
  have hpv := pairs_val hvw l l.length
  obtain ⟨hvS, hlG⟩ := gat_pairs hvw l
  generalize pairsR v l l.length = P at e1 hpl hpv hvS hlG
  have hg1 := c_gather v hv hvw P hpv (by omega)
  generalize gatR P P.length = G at hg1 hvS hlG
  have e4 := c_alerts_Encode v hv G (by omega)
  rw [enc_val hvS] at e4
  have hE0 := enc_pos G
  have hEl := enc_len G G.length (Nat.le_refl _)
  have e5 := c_Decode v hv (encAt G G.length ++ bh) (by rw [List.length_append]; omega)
  rw [decode_back hvS (by omega) bh] at e5
  have e6 := fun c (hc : c < (encAt G G.length).length) => c_Decode v hv ((encAt G G.length).take c) (by simp; omega)
  have e6' : ∀ c, c < (encAt G G.length).length → decodeR v ((encAt G G.length).take c) = ([], 0, 2) := fun c hc => decode_cut hvS (by omega) hc
  generalize encAt G G.length = E at *
  have hne : ((E.map byteI).length : Int) ≠ 0 := by
    rw [List.length_map]
    omega
  have hix : Int.tmod (IntKind.i64.wrap (u : Int)) ((E.map byteI).length : Int) = ((u % E.length : Nat) : Int) := by
    rw [List.length_map, wrap_i64 (by omega) (by omega)]
    exact (Int.ofNat_tmod _ _).symm
  have hkE : u % E.length < E.length := Nat.mod_lt _ hE0
  have hk : u % E.length ≤ (E.map byteI).length := by
    rw [List.length_map]
    omega
  have e7 := e6 (u % E.length) hkE
  rw [e6' _ hkE] at e7
  clear e6 e6'
  generalize u % E.length = k at hix hk hkE e7
  have hsm := c_ref6_Same_refl G (by simp only [maxLen]; omega)
  obtain ⟨tr, htr⟩ : ∃ b : Bool, b = true := ⟨true, rfl⟩
  obtain ⟨z, hz⟩ : ∃ z : Int, z = 0 := ⟨0, rfl⟩
  obtain ⟨z2, hz2⟩ : ∃ z : Int, z = 2 := ⟨2, rfl⟩
  obtain ⟨n, hn⟩ : ∃ n : Int, n = (E.length : Int) := ⟨_, rfl⟩
  simp only [] at e5 e7
  rw [← hz, ← hn] at e5
  rw [← hz, ← hz2] at e7
  rw [← htr] at hg1 hsm
  have hle : (E.map byteI).length = E.length := List.length_map ..
  have hx1 : E.map byteI ++ bh.map byteI = (E ++ bh).map byteI := (List.map_append ..).symm
  have hx2 : (E.map byteI).take k = (E.take k).map byteI := List.map_take.symm
  repeat' ((conv => whnf); first | refine And.intro (fun h => h) ?_ | refine dcond_t (by assumption) ?_ | refine dcond_f (by assumption) ?_ | (refine dcond_intro ?_ ?_ <;> intro h) | exact .refl | refine And.intro (by kernel_rfl) ?_ | refine And.intro ⟨fun h => h, fun h => h⟩ ?_ | refine .inl ⟨_, _, DleAll_refl _, e1, ?_⟩ | refine ⟨_, _, DleAll_refl _, fun _ => e1, ?_⟩ | refine ⟨_, _, DleAll_refl _, e1, ?_⟩ | refine .inl ⟨_, _, DleAll_refl _, hg1, ?_⟩ | refine ⟨_, _, DleAll_refl _, fun _ => hg1, ?_⟩ | refine ⟨_, _, DleAll_refl _, hg1, ?_⟩ | refine .inl ⟨_, _, DleAll_refl _, e4, ?_⟩ | refine ⟨_, _, DleAll_refl _, fun _ => e4, ?_⟩ | refine ⟨_, _, DleAll_refl _, e4, ?_⟩ | refine .inl ⟨[_, .lst 1 ((E ++ bh).map byteI) false], _, ⟨.refl, dle_lst hx1, trivial⟩, e5, ?_⟩ | refine .inl ⟨[_, .lst 1 ((E.take k).map byteI) false], _, ⟨.refl, dle_lst hx2, trivial⟩, e7, ?_⟩ | refine .inl ⟨_, _, DleAll_refl _, hsm, ?_⟩ | refine ⟨_, _, DleAll_refl _, fun _ => hsm, ?_⟩ | refine ⟨_, _, DleAll_refl _, hsm, ?_⟩ | refine And.intro hne ?_ | refine ⟨0, k, And.intro ⟨rfl, ⟨_, congrArg (fun x => DV.v (Value.int .i64 x)) hix⟩, Nat.zero_le _, hk⟩ ?_⟩ | refine And.intro (fitsB (by simp <;> omega)) ?_ | (refine And.intro ?_ ?_; focus (simp; done)) | fail)
  all_goals (conv => whnf)
  · rw [hle, htr, hz, hn, decide_eq_false (show ¬ ((E.length : Int) = 0) by omega)] at h
    simp at h
  · refine dle_bool ?_
    rw [hz2, hz]
    rfl
theorem law4 (dvs : List DV) (h : DatAll tt 5 [24, 25, 5, 37] dvs) : Ret Try.prog 4 dvs (.v (.bool true)) := by
  obtain ⟨b, _, rfl, hb, a, _, rfl, ha, _, _, rfl, ⟨s, rfl, hs⟩, c, _, rfl, hc, rfl⟩ := h
  obtain ⟨v, rfl, hv⟩ := dat_view (n := 2) hb
  obtain ⟨l, rfl, hl, hlb⟩ := dat_u16s (n := 3) ha
  obtain ⟨q, rfl, hq, _⟩ := dat_u8b (n := 3) hc
  have h1 := bounds_u8 (by exact hs)
  obtain ⟨s, rfl⟩ := Int.eq_ofNat_of_zero_le (a := s) (by omega)
  exact r4 v hv l hl hlb s (by omega) q hq
end Go.Proofs.Ytanolkidafeaeaa

set_option linter.unusedSimpArgs false
set_option linter.unusedVariables false
namespace Go.Proofs.Ytanolkidafeaeaa
open Go.Lift
/-! Merge -/
def mrgR (A B : List Alr) (i : Nat) : List Alr := (B.take i).foldl (fun acc a => (insR acc a).1) A
theorem mrg_succ {A B : List Alr} {i : Nat} (h : i < B.length) : mrgR A B (i + 1) = (insR (mrgR A B i) B[i]).1 := by
  unfold mrgR
  rw [List.take_succ_eq_append_getElem h, List.foldl_append]
  rfl
theorem ins_len (l : List Alr) (a : Alr) : l.length ≤ (insR l a).1.length ∧ (insR l a).1.length ≤ l.length + 1 := by
  have hkl : insK l a ≤ l.length := (List.takeWhile_prefix _).length_le
  unfold insR
  generalize insK l a = k at *
  cases decide (((k : Nat) : Int) < (l.length : Int)) && !lessB a (l.getD k alr0)
  · rw [cond_false]
    simp
    omega
  · rw [cond_true]
    simp
theorem mrg_len (A B : List Alr) : ∀ i, i ≤ B.length → A.length ≤ (mrgR A B i).length ∧ (mrgR A B i).length ≤ A.length + i
  | 0, _ => by simp [mrgR]
  | i + 1, h => by
    have ih := mrg_len A B i (by omega)
    have h1 := ins_len (mrgR A B i) (B[i]'(by omega))
    rw [mrg_succ (by omega)]
    omega
theorem mrg_ok {v : View} {A B : List Alr} (hA : ∀ a ∈ A, valA v a = true) (hs : srt A) (hB : ∀ a ∈ B, valA v a = true) : ∀ i, i ≤ B.length → srt (mrgR A B i) ∧ ∀ x, x ∈ mrgR A B i ↔ x ∈ A ∨ x ∈ B.take i
  | 0, _ => by simp [mrgR, hs]
  | i + 1, hi => by
    obtain ⟨h1, h3⟩ := mrg_ok hA hs hB i (by omega)
    have hil : i < B.length := by omega
    rw [mrg_succ hil, List.take_succ_eq_append_getElem hil]
    obtain ⟨g1, g2, g3, g4, g5⟩ := ins_srt h1 B[i]
    refine ⟨g1, fun x => ?_⟩
    rw [List.mem_append, List.mem_singleton]
    constructor
    · intro hx
      rcases g3 x hx with h | h
      · rcases (h3 x).1 h with h | h
        · exact .inl h
        · exact .inr (.inl h)
      · exact .inr (.inr h)
    · rintro (hx | hx | rfl)
      · exact g4 x ((h3 x).2 (.inl hx))
      · exact g4 x ((h3 x).2 (.inr hx))
      · rcases g5 with h | ⟨e, he, hk1, hk2⟩
        · exact h
        · have hev : valA v e = true := by
            rcases (h3 e).1 he with h | h
            · exact hA e h
            · exact hB e (List.mem_of_mem_take h)
          have := val_key hev (hB _ (List.getElem_mem hil)) hk1 hk2
          have hh := g4 e he
          rw [this] at hh
          exact hh
theorem mrg_set {v : View} {A B : List Alr} (hA : valS v A = true) (hB : valS v B = true) : valS v (mrgR A B B.length) = true ∧ ∀ x, x ∈ mrgR A B B.length ↔ x ∈ A ∨ x ∈ B := by
  obtain ⟨hv, a1, a2⟩ := valS_iff.1 hA
  obtain ⟨_, b1, b2⟩ := valS_iff.1 hB
  obtain ⟨h1, h2⟩ := mrg_ok a1 a2 b1 _ (Nat.le_refl _)
  rw [List.take_length] at h2
  refine ⟨valS_iff.2 ⟨hv, fun a ha => ?_, h1⟩, h2⟩
  rcases (h2 a).1 ha with h | h
  · exact a1 a h
  · exact b1 a h
theorem set_ext {v : View} {A B : List Alr} (hA : valS v A = true) (hB : valS v B = true) (h : ∀ x, x ∈ A ↔ x ∈ B) : A = B := srt_ext (valS_iff.1 hA).2.2 (valS_iff.1 hB).2.2 h
theorem mrg_comm {v : View} {A B : List Alr} (hA : valS v A = true) (hB : valS v B = true) : mrgR A B B.length = mrgR B A A.length :=
  set_ext (mrg_set hA hB).1 (mrg_set hB hA).1 fun x => by
    rw [(mrg_set hA hB).2, (mrg_set hB hA).2]
    exact or_comm
theorem mrg_assoc {v : View} {A B C : List Alr} (hA : valS v A = true) (hB : valS v B = true) (hC : valS v C = true) : mrgR (mrgR A B B.length) C C.length = mrgR A (mrgR B C C.length) (mrgR B C C.length).length :=
  set_ext (mrg_set (mrg_set hA hB).1 hC).1 (mrg_set hA (mrg_set hB hC).1).1 fun x => by
    rw [(mrg_set (mrg_set hA hB).1 hC).2, (mrg_set hA hB).2, (mrg_set hA (mrg_set hB hC).1).2, (mrg_set hB hC).2]
    exact or_assoc
theorem mrg_self {v : View} {A : List Alr} (hA : valS v A = true) : mrgR A A A.length = A :=
  set_ext (mrg_set hA hA).1 hA fun x => by
    rw [(mrg_set hA hA).2]
    exact or_self_iff
theorem c_Merge (v : View) (hv : v.mem.length ≤ maxLen) (A B : List Alr) (hA : A.length ≤ 10000) (hB : B.length ≤ 10000) (vA : valS v A = true) (vB : valS v B = true) : Ret Try.prog 15 [.agg (viewE v), .lst 4 (A.map alE) false, .lst 4 (B.map alE) false] (.tup [.lst 4 ((mrgR A B B.length).map alE) false, i64 0]) := by
  have e1 := c_alerts_Valid v hv A (by simp only [maxLen]; omega)
  have e2 := c_alerts_Valid v hv B (by simp only [maxLen]; omega)
  rw [vA] at e1
  rw [vB] at e2
  have ec := c_Clone_alr A (by omega)
  refine ret_of_body (fn := Try.f15) (c := Try.f15.body.getD .skip) hm hT (by kernel_rfl) Try.func15 (by kernel_rfl) (by kernel_rfl) (by kernel_rfl) (by kernel_rfl) ?_
  repeat' ((conv => whnf); first | refine And.intro (fun h => h) ?_ | refine dcond_t (by assumption) ?_ | refine dcond_f (by assumption) ?_ | (refine dcond_intro ?_ ?_ <;> intro h) | exact .refl | refine And.intro (by kernel_rfl) ?_ | refine And.intro ⟨fun h => h, fun h => h⟩ ?_ | refine .inl ⟨_, _, DleAll_refl _, e1, ?_⟩ | refine ⟨_, _, DleAll_refl _, fun _ => e1, ?_⟩ | refine ⟨_, _, DleAll_refl _, e1, ?_⟩ | refine .inl ⟨_, _, DleAll_refl _, e2, ?_⟩ | refine ⟨_, _, DleAll_refl _, fun _ => e2, ?_⟩ | refine ⟨_, _, DleAll_refl _, e2, ?_⟩ | refine .inl ⟨_, _, DleAll_refl _, ec, ?_⟩ | refine ⟨_, _, DleAll_refl _, fun _ => ec, ?_⟩ | refine ⟨_, _, DleAll_refl _, ec, ?_⟩ | (refine And.intro ?_ ?_; focus (simp; done)) | fail)
  all_goals (conv => whnf)
  refine ⟨Nat, fun i => ⟨[(8, .lst 4 ((mrgR A B i).map alE) false), (23, .lst 4 (B.map alE) false), (24, i64 B.length), (25, i64 i)], [.cells 24 (viewE v)]⟩, fun i => i ≤ B.length, fun i => B.length - i, [], ⟨0, Nat.zero_le _, ?_⟩, ?_⟩
  · conv => whnf
    exact ⟨⟨.refl, .refl, dle_int (by simp), .refl, trivial⟩, ⟨.refl, trivial⟩, by rfl⟩
  · intro i hi
    have hl := mrg_len A B i hi
    repeat' ((conv => whnf); first | refine And.intro (fun h => h) ?_ | refine dcond_t (by assumption) ?_ | refine dcond_f (by assumption) ?_ | (refine dcond_intro ?_ ?_ <;> intro h) | exact .refl | refine And.intro (by kernel_rfl) ?_ | refine And.intro ⟨fun h => h, fun h => h⟩ ?_ | (refine And.intro ?_ ?_; focus (simp; done)) | fail)
    · have hlt : i < B.length := by simpa using h
      clear h
      have ei := c_insert (mrgR A B i) (by omega) B[i]
      rw [← mrg_succ hlt] at ei
      generalize (insR (mrgR A B i) B[i]).2 = fl at ei
      repeat' ((conv => whnf); first | refine And.intro (fun h => h) ?_ | refine dcond_t (by assumption) ?_ | refine dcond_f (by assumption) ?_ | (refine dcond_intro ?_ ?_ <;> intro h) | exact .refl | refine And.intro (by kernel_rfl) ?_ | refine And.intro ⟨fun h => h, fun h => h⟩ ?_ | refine ⟨_, _, And.intro ⟨rfl, get_map hlt⟩ ?_⟩ | refine .inl ⟨_, _, DleAll_refl _, ei, ?_⟩ | refine ⟨_, _, DleAll_refl _, fun _ => ei, ?_⟩ | refine ⟨_, _, DleAll_refl _, ei, ?_⟩ | (refine And.intro ?_ ?_; focus (simp; done)) | fail)
      all_goals (conv => whnf)
      refine ⟨i + 1, hlt, by simp only []; omega, ?_⟩
      conv => whnf
      exact ⟨⟨.refl, .refl, .refl, dle_int (wrap_succ (by omega)), trivial⟩, ⟨.refl, trivial⟩, by rfl⟩
    · have : i = B.length := by
        simp at h
        omega
      subst this
      repeat' ((conv => whnf); first | refine And.intro (fun h => h) ?_ | refine dcond_t (by assumption) ?_ | refine dcond_f (by assumption) ?_ | (refine dcond_intro ?_ ?_ <;> intro h) | exact .refl | refine And.intro (by kernel_rfl) ?_ | refine And.intro ⟨fun h => h, fun h => h⟩ ?_ | (refine And.intro ?_ ?_; focus (simp; done)) | fail)
end Go.Proofs.Ytanolkidafeaeaa

set_option linter.unusedSimpArgs false
set_option linter.unusedVariables false
namespace Go.Proofs.Ytanolkidafeaeaa
open Go.Lift
theorem g_pairs (v : View) (hv : v.mem.length ≤ maxLen) (hvw : viewB v = true) (l : List Nat) (hl : l.length ≤ 60) (hlb : ∀ x ∈ l, x ≤ 65535) : ∃ P G : List Alr, Ret Try.prog 9 [.agg (viewE v), .lst 1 (l.map bE16) false] (.lst 4 (P.map alE) false) ∧
    Ret Try.prog 10 [.agg (viewE v), .lst 4 (P.map alE) false] (.tup [.lst 4 (G.map alE) false, .v (.bool true)]) ∧ valS v G = true ∧ G.length ≤ l.length := by
  have e1 := c_Pairs v hv hvw l hl hlb
  have hpl := pairs_len (v := v) (l := l) l.length (Nat.le_refl _)
  have hpv := pairs_val hvw l l.length
  obtain ⟨hvS, hlG⟩ := gat_pairs hvw l
  exact ⟨_, _, e1, c_gather v hv hvw _ hpv (by omega), hvS, hlG⟩
theorem r5 (v : View) (hv : v.mem.length ≤ maxLen) (a b c : List Nat) (hla : a.length ≤ maxLen) (hba : ∀ x ∈ a, x ≤ 65535) (hlb : b.length ≤ maxLen) (hbb : ∀ x ∈ b, x ≤ 65535) (hlc : c.length ≤ maxLen) (hbc : ∀ x ∈ c, x ≤ 65535) :
    Ret Try.prog 5 [.agg (viewE v), .lst 1 (a.map bE16) false, .lst 1 (b.map bE16) false, .lst 1 (c.map bE16) false] (.v (.bool true)) := by
  have e0 := c_ref3_Valid v hv
  refine ret_of_body (fn := Try.f5) (c := Try.f5.body.getD .skip) hm hT (by kernel_rfl) Try.func5 (by kernel_rfl) (by kernel_rfl) (by kernel_rfl) (by kernel_rfl) ?_
  repeat' ((conv => whnf); first | refine And.intro (fun h => h) ?_ | refine dcond_t (by assumption) ?_ | refine dcond_f (by assumption) ?_ | (refine dcond_intro ?_ ?_ <;> intro h) | exact .refl | refine And.intro (by kernel_rfl) ?_ | refine And.intro ⟨fun h => h, fun h => h⟩ ?_ | refine .inl ⟨_, _, DleAll_refl _, c_awake, ?_⟩ | refine ⟨_, _, DleAll_refl _, fun _ => c_awake, ?_⟩ | refine ⟨_, _, DleAll_refl _, c_awake, ?_⟩ | refine .inl ⟨_, _, DleAll_refl _, e0, ?_⟩ | refine ⟨_, _, DleAll_refl _, fun _ => e0, ?_⟩ | refine ⟨_, _, DleAll_refl _, e0, ?_⟩ | (refine And.intro ?_ ?_; focus (simp; done)) | fail)
  simp only [Bool.or_eq_false_iff, Bool.not_eq_false', decide_eq_false_iff_not, List.length_map] at h
  obtain ⟨⟨⟨hvw, h1⟩, h2⟩, h3⟩ := h
  obtain ⟨PX, X, p1, g1, vX, lX⟩ := g_pairs v hv hvw a (by omega) hba
  obtain ⟨PY, Y, p2, g2, vY, lY⟩ := g_pairs v hv hvw b (by omega) hbb
  obtain ⟨PZ, Z, p3, g3, vZ, lZ⟩ := g_pairs v hv hvw c (by omega) hbc
  have lxy := mrg_len X Y Y.length (Nat.le_refl _)
  have lyz := mrg_len Y Z Z.length (Nat.le_refl _)
  have m1 := c_Merge v hv X Y (by omega) (by omega) vX vY
  have m2 := c_Merge v hv Y X (by omega) (by omega) vY vX
  have m3 := c_Merge v hv Y Z (by omega) (by omega) vY vZ
  have m4 := c_Merge v hv (mrgR X Y Y.length) Z (by omega) (by omega) (mrg_set vX vY).1 vZ
  have m5 := c_Merge v hv X (mrgR Y Z Z.length) (by omega) (by omega) vX (mrg_set vY vZ).1
  have m6 := c_Merge v hv X X (by omega) (by omega) vX vX
  have lr := mrg_len (mrgR X Y Y.length) Z Z.length (Nat.le_refl _)
  rw [← mrg_comm vX vY] at m2
  rw [← mrg_assoc vX vY vZ] at m5
  rw [mrg_self vX] at m6
  generalize mrgR (mrgR X Y Y.length) Z Z.length = L at *
  generalize mrgR X Y Y.length = XY at *
  generalize mrgR Y Z Z.length = YZ at *
  have s1 := c_ref6_Same_refl XY (by simp only [maxLen]; omega)
  have s2 := c_ref6_Same_refl L (by simp only [maxLen]; omega)
  have s3 := c_ref6_Same_refl X (by simp only [maxLen]; omega)
  obtain ⟨tr, htr⟩ : ∃ b : Bool, b = true := ⟨true, rfl⟩
  obtain ⟨z, hz⟩ : ∃ z : Int, z = 0 := ⟨0, rfl⟩
  rw [← htr] at g1 g2 g3 s1 s2 s3
  rw [← hz] at m1 m2 m3 m4 m5 m6
  clear vX vY vZ hvw e0
  repeat' ((conv => whnf); first | refine And.intro (fun h => h) ?_ | refine dcond_t (by assumption) ?_ | refine dcond_f (by assumption) ?_ | (refine dcond_intro ?_ ?_ <;> intro h) | exact .refl | refine And.intro (by kernel_rfl) ?_ | refine And.intro ⟨fun h => h, fun h => h⟩ ?_ | refine .inl ⟨_, _, DleAll_refl _, p1, ?_⟩ | refine ⟨_, _, DleAll_refl _, fun _ => p1, ?_⟩ | refine ⟨_, _, DleAll_refl _, p1, ?_⟩ | refine .inl ⟨_, _, DleAll_refl _, g1, ?_⟩ | refine ⟨_, _, DleAll_refl _, fun _ => g1, ?_⟩ | refine ⟨_, _, DleAll_refl _, g1, ?_⟩ | refine .inl ⟨_, _, DleAll_refl _, p2, ?_⟩ | refine ⟨_, _, DleAll_refl _, fun _ => p2, ?_⟩ | refine ⟨_, _, DleAll_refl _, p2, ?_⟩ | refine .inl ⟨_, _, DleAll_refl _, g2, ?_⟩ | refine ⟨_, _, DleAll_refl _, fun _ => g2, ?_⟩ | refine ⟨_, _, DleAll_refl _, g2, ?_⟩ | refine .inl ⟨_, _, DleAll_refl _, p3, ?_⟩ | refine ⟨_, _, DleAll_refl _, fun _ => p3, ?_⟩ | refine ⟨_, _, DleAll_refl _, p3, ?_⟩ | refine .inl ⟨_, _, DleAll_refl _, g3, ?_⟩ | refine ⟨_, _, DleAll_refl _, fun _ => g3, ?_⟩ | refine ⟨_, _, DleAll_refl _, g3, ?_⟩ | (refine And.intro ?_ ?_; focus (simp; done)) | fail)
  · exfalso
    simp [htr] at h
  · clear h
    repeat' ((conv => whnf); first | refine And.intro (fun h => h) ?_ | refine dcond_t (by assumption) ?_ | refine dcond_f (by assumption) ?_ | (refine dcond_intro ?_ ?_ <;> intro h) | exact .refl | refine And.intro (by kernel_rfl) ?_ | refine And.intro ⟨fun h => h, fun h => h⟩ ?_ | refine .inl ⟨_, _, DleAll_refl _, m1, ?_⟩ | refine ⟨_, _, DleAll_refl _, fun _ => m1, ?_⟩ | refine ⟨_, _, DleAll_refl _, m1, ?_⟩ | refine .inl ⟨_, _, DleAll_refl _, m2, ?_⟩ | refine ⟨_, _, DleAll_refl _, fun _ => m2, ?_⟩ | refine ⟨_, _, DleAll_refl _, m2, ?_⟩ | refine .inl ⟨_, _, DleAll_refl _, m3, ?_⟩ | refine ⟨_, _, DleAll_refl _, fun _ => m3, ?_⟩ | refine ⟨_, _, DleAll_refl _, m3, ?_⟩ | refine .inl ⟨_, _, DleAll_refl _, m4, ?_⟩ | refine ⟨_, _, DleAll_refl _, fun _ => m4, ?_⟩ | refine ⟨_, _, DleAll_refl _, m4, ?_⟩ | refine .inl ⟨_, _, DleAll_refl _, m5, ?_⟩ | refine ⟨_, _, DleAll_refl _, fun _ => m5, ?_⟩ | refine ⟨_, _, DleAll_refl _, m5, ?_⟩ | refine .inl ⟨_, _, DleAll_refl _, m6, ?_⟩ | refine ⟨_, _, DleAll_refl _, fun _ => m6, ?_⟩ | refine ⟨_, _, DleAll_refl _, m6, ?_⟩ | refine .inl ⟨_, _, DleAll_refl _, s1, ?_⟩ | refine ⟨_, _, DleAll_refl _, fun _ => s1, ?_⟩ | refine ⟨_, _, DleAll_refl _, s1, ?_⟩ | refine .inl ⟨_, _, DleAll_refl _, s2, ?_⟩ | refine ⟨_, _, DleAll_refl _, fun _ => s2, ?_⟩ | refine ⟨_, _, DleAll_refl _, s2, ?_⟩ | refine .inl ⟨_, _, DleAll_refl _, s3, ?_⟩ | refine ⟨_, _, DleAll_refl _, fun _ => s3, ?_⟩ | refine ⟨_, _, DleAll_refl _, s3, ?_⟩ | (refine And.intro ?_ ?_; focus (simp; done)) | fail)
    all_goals (conv => whnf)
    refine dle_bool ?_
    have hw : IntKind.i64.wrap (((X.map alE).length : Int) + ((Y.map alE).length : Int)) = ((X.length + Y.length : Nat) : Int) := by
      rw [List.length_map, List.length_map, wrap_i64 (by omega) (by omega)]
      omega
    rw [List.length_map, List.length_map] at hw
    simp [htr, hz]
    rw [hw]
    omega
theorem law5 (dvs : List DV) (h : DatAll tt 5 [24, 25, 25, 25] dvs) : Ret Try.prog 5 dvs (.v (.bool true)) := by
  obtain ⟨b, _, rfl, hb, a1, _, rfl, h1, a2, _, rfl, h2, a3, _, rfl, h3, rfl⟩ := h
  obtain ⟨v, rfl, hv⟩ := dat_view (n := 2) hb
  obtain ⟨l1, rfl, c1, d1⟩ := dat_u16s (n := 3) h1
  obtain ⟨l2, rfl, c2, d2⟩ := dat_u16s (n := 3) h2
  obtain ⟨l3, rfl, c3, d3⟩ := dat_u16s (n := 3) h3
  exact r5 v hv l1 l2 l3 c1 d1 c2 d2 c3 d3
end Go.Proofs.Ytanolkidafeaeaa

/-
  DERIVED: THE SHELF's CONTRACTS AT THIS DUMP, IN PLAIN WORDS (tools/lay-plain.mjs out of 'YtanolkidafeaeaaShelf.lean', which tools/lay-shelf.mjs wrote): THE SAME DECLARATIONS UNDER THE SAME NAMES: 'import', 'namespace', 'open', 'def', 'theorem' AND NOTHING ELSE: no command of the shelf's: FOR A HAND-IN. Each laying: the table of numbers ('.._ren') and one theorem, a field a fact of the dump's own or the kernel's comparison; each contract: ONE APPLICATION.
-/
namespace Go.Proofs
open Go.Shelf
def Try.srtI_ren : Go.Shelf.Ren := ⟨fun | 189 => 29 | 125 => 40 | 257 => 39 | 128 => 58 | 129 => 59 | 294 => 49 | 295 => 50 | 296 => 51 | 297 => 52 | 298 => 53 | 299 => 54 | 216 => 55 | 300 => 56 | 301 => 57 | 328 => 63 | 329 => 64 | 330 => 65 | 331 => 66 | 332 => 67 | 215 => 68 | 343 => 71 | n => n, fun | 28 => 22 | 3 => 3 | 46 => 72 | 0 => 0 | 51 => 88 | 53 => 57 | 4 => 4 | 183 => 80 | 182 => 79 | 131 => 85 | 5 => 5 | 9 => 9 | 218 => 92 | 222 => 96 | 228 => 99 | 229 => 100 | n => n, fun | n => n⟩
theorem Try.srtI : Go.Proofs.Lays.n189 Try.prog Try.srtI_ren := {
  mixed := by kernel_rfl
  f125 := Try.func40.trans (congrArg some (by kernel_rfl))
  f128 := Try.func58.trans (congrArg some (by kernel_rfl))
  f129 := Try.func59.trans (congrArg some (by kernel_rfl))
  f189 := Try.func29.trans (congrArg some (by kernel_rfl))
  f215 := Try.func68.trans (congrArg some (by kernel_rfl))
  f216 := Try.func55.trans (congrArg some (by kernel_rfl))
  f257 := Try.func39.trans (congrArg some (by kernel_rfl))
  f294 := Try.func49.trans (congrArg some (by kernel_rfl))
  f295 := Try.func50.trans (congrArg some (by kernel_rfl))
  f296 := Try.func51.trans (congrArg some (by kernel_rfl))
  f297 := Try.func52.trans (congrArg some (by kernel_rfl))
  f298 := Try.func53.trans (congrArg some (by kernel_rfl))
  f299 := Try.func54.trans (congrArg some (by kernel_rfl))
  f300 := Try.func56.trans (congrArg some (by kernel_rfl))
  f301 := Try.func57.trans (congrArg some (by kernel_rfl))
  f328 := Try.func63.trans (congrArg some (by kernel_rfl))
  f329 := Try.func64.trans (congrArg some (by kernel_rfl))
  f330 := Try.func65.trans (congrArg some (by kernel_rfl))
  f331 := Try.func66.trans (congrArg some (by kernel_rfl))
  f332 := Try.func67.trans (congrArg some (by kernel_rfl))
  f343 := Try.func71.trans (congrArg some (by kernel_rfl))
  t0 := Try.underlying0
  a0 := Try.isAgg0
  z0 := Try.sizeOf0
  v0 := Try.zeroValue0
  t3 := Try.underlying3
  a3 := Try.isAgg3
  z3 := Try.sizeOf3
  v3 := Try.zeroValue3
  t4 := Try.underlying4
  a4 := Try.isAgg4
  z4 := Try.sizeOf4
  v4 := Try.zeroValue4
  t5 := Try.underlying5
  a5 := Try.isAgg5
  z5 := Try.sizeOf5
  v5 := Try.zeroValue5
  t9 := Try.underlying9
  a9 := Try.isAgg9
  z9 := Try.sizeOf9
  v9 := Try.zeroValue9
  t28 := Try.underlying22
  a28 := Try.isAgg22
  z28 := Try.sizeOf22
  v28 := Try.zeroValue22
  t46 := Try.underlying72
  a46 := Try.isAgg72
  z46 := Try.sizeOf72
  v46 := Try.zeroValue72
  t51 := Try.underlying88
  a51 := Try.isAgg88
  z51 := Try.sizeOf88
  v51 := Try.zeroValue88
  t53 := Try.underlying57
  a53 := Try.isAgg57
  z53 := Try.sizeOf57
  v53 := Try.zeroValue57
  t131 := Try.underlying85
  a131 := Try.isAgg85
  z131 := Try.sizeOf85
  v131 := Try.zeroValue85
  t182 := Try.underlying79
  a182 := Try.isAgg79
  z182 := Try.sizeOf79
  v182 := Try.zeroValue79
  t183 := Try.underlying80
  a183 := Try.isAgg80
  z183 := Try.sizeOf80
  v183 := Try.zeroValue80
  t218 := Try.underlying92
  a218 := Try.isAgg92
  z218 := Try.sizeOf92
  v218 := Try.zeroValue92
  t222 := Try.underlying96
  a222 := Try.isAgg96
  z222 := Try.sizeOf96
  v222 := Try.zeroValue96
  t228 := Try.underlying99
  a228 := Try.isAgg99
  z228 := Try.sizeOf99
  v228 := Try.zeroValue99
  t229 := Try.underlying100
  a229 := Try.isAgg100
  z229 := Try.sizeOf100
  v229 := Try.zeroValue100 }
def Try.cmpI_ren : Go.Shelf.Ren := ⟨fun | 20 => 30 | n => n, fun | 22 => 22 | 3 => 3 | 4 => 4 | 0 => 0 | n => n, fun | n => n⟩
theorem Try.cmpI : Go.Proofs.Lays2.n20 Try.prog Try.cmpI_ren := {
  mixed := by kernel_rfl
  f20 := Try.func30.trans (congrArg some (by kernel_rfl))
  t0 := Try.underlying0
  a0 := Try.isAgg0
  z0 := Try.sizeOf0
  v0 := Try.zeroValue0
  t3 := Try.underlying3
  a3 := Try.isAgg3
  z3 := Try.sizeOf3
  v3 := Try.zeroValue3
  t4 := Try.underlying4
  a4 := Try.isAgg4
  z4 := Try.sizeOf4
  v4 := Try.zeroValue4
  t22 := Try.underlying22
  a22 := Try.isAgg22
  z22 := Try.sizeOf22
  v22 := Try.zeroValue22
  i3 := by kernel_rfl }
end Go.Proofs

set_option linter.unusedSimpArgs false
set_option linter.unusedVariables false
namespace Go.Proofs.Ytanolkidafeaeaa
open Go.Lift
/-! slices.Sort and slices.Compact at ints; lists of ints that rise -/
theorem m_Sort (l l' : List Int) (hp : l'.Perm l) (hs : l'.Pairwise fun x y => x ≤ y) (hlen : l.length < 4611686018427387904) : RetM Try.prog 29 [.row 3 1 (l.map intE)] [.own 0] [true] [.row 3 1 (l'.map intE)] (.tup []) :=
  sortI_retM Try.srtI rfl (enters_of Try.func29 (by kernel_rfl) rfl) l l' hp hs hlen
theorem m_Compact (l : List Int) (hlen : l.length ≤ 9223372036854775807) : RetM Try.prog 30 [.row 3 1 (l.map intE)] [.own 0] [false] [.row 3 1 ((Go.Lib.compact l).map intE)] (.own 0) :=
  compactI_retM Try.cmpI rfl (enters_of Try.func30 (by kernel_rfl) rfl) l hlen
def srtI (l : List Int) : List Int := l.mergeSort fun x y => decide (x ≤ y)
theorem srtI_perm (l : List Int) : (srtI l).Perm l := List.mergeSort_perm _ _
theorem srtI_up (l : List Int) : (srtI l).Pairwise fun x y => x ≤ y := by
  have h1 := List.pairwise_mergeSort (le := fun x y : Int => decide (x ≤ y)) (fun a b c h1 h2 => by simp at *; omega) (fun a b => by simp; omega) l
  exact h1.imp fun h => by simpa using h
/-- the elements of a list, sorted, each once -/
def setI (l : List Int) : List Int := Go.Lib.compact (srtI l)
theorem setI_up (l : List Int) : (setI l).Pairwise fun x y => x < y := (compact_ok (srtI_up l)).1
theorem setI_mem {l : List Int} {x : Int} : x ∈ setI l ↔ x ∈ l := ((compact_ok (srtI_up l)).2 x).trans (srtI_perm l).mem_iff
theorem setI_len (l : List Int) : (setI l).length ≤ l.length := by
  have h1 := compact_len (srtI l)
  have h2 := (srtI_perm l).length_eq
  unfold setI
  omega
theorem up_ext {a b : List Int} (ha : a.Pairwise fun x y => x < y) (hb : b.Pairwise fun x y => x < y) (h : ∀ x, x ∈ a ↔ x ∈ b) : a = b := by
  have na : a.Nodup := ha.imp fun {x y} hxy he => by omega
  have nb : b.Nodup := hb.imp fun {x y} hxy he => by omega
  have hp : a.Perm b := (List.perm_ext_iff_of_nodup na nb).2 h
  exact hp.eq_of_pairwise (le := fun x y => x < y) (fun x y _ _ h1 h2 => by omega) ha hb
theorem c_Subjects (l : List Alr) (hl : l.length ≤ 1000000) : Ret Try.prog 16 [.lst 4 (l.map alE) false] (.lst 1 ((setI (l.map (·.subj))).map intE) false) := by
  have hfI : ∀ n, n ≤ 2000000 → fitsIn tt 3 n := fun n h => by
    have e : (tinfo tt 3).bytes = 8 := by kernel_rfl
    refine ⟨?_, ?_⟩
    · rw [e]; omega
    · simp only [maxLen]; omega
  have m1 := m_Sort (l.map (·.subj)) (srtI (l.map (·.subj))) (srtI_perm _) (srtI_up _) (by rw [List.length_map]; omega)
  have m2 := m_Compact (srtI (l.map (·.subj))) (by rw [(srtI_perm _).length_eq, List.length_map]; omega)
  refine ret_of_body (fn := Try.f16) (c := Try.f16.body.getD .skip) hm hT (by kernel_rfl) Try.func16 (by kernel_rfl) (by kernel_rfl) (by kernel_rfl) (by kernel_rfl) ?_
  repeat' ((conv => whnf); first | refine And.intro (fun h => h) ?_ | refine dcond_t (by assumption) ?_ | refine dcond_f (by assumption) ?_ | (refine dcond_intro ?_ ?_ <;> intro h) | exact .refl | refine And.intro (by kernel_rfl) ?_ | refine And.intro ⟨fun h => h, fun h => h⟩ ?_ | (refine And.intro ?_ ?_; focus (simp; done)) | fail)
  all_goals (conv => whnf)
  refine ⟨Nat, fun i => ⟨[(3, .own 0), (6, .lst 4 (l.map alE) false), (7, i64 l.length), (8, i64 i)], [.row 3 1 (((l.take i).map (·.subj)).map intE)]⟩, fun i => i ≤ l.length, fun i => l.length - i, [.slot 3 3 1], ⟨0, Nat.zero_le _, ?_⟩, ?_⟩
  · conv => whnf
    exact ⟨⟨.refl, .refl, dle_int (by simp), .refl, trivial⟩, ⟨.refl, trivial⟩, by rfl⟩
  · intro i hi
    repeat' ((conv => whnf); first | refine And.intro (fun h => h) ?_ | refine dcond_t (by assumption) ?_ | refine dcond_f (by assumption) ?_ | (refine dcond_intro ?_ ?_ <;> intro h) | exact .refl | refine And.intro (by kernel_rfl) ?_ | refine And.intro ⟨fun h => h, fun h => h⟩ ?_ | (refine And.intro ?_ ?_; focus (simp; done)) | fail)
    · have hlt : i < l.length := by simpa using h
      clear h
      repeat' ((conv => whnf); first | refine And.intro (fun h => h) ?_ | refine dcond_t (by assumption) ?_ | refine dcond_f (by assumption) ?_ | (refine dcond_intro ?_ ?_ <;> intro h) | exact .refl | refine And.intro (by kernel_rfl) ?_ | refine And.intro ⟨fun h => h, fun h => h⟩ ?_ | refine ⟨_, _, And.intro ⟨rfl, get_map hlt⟩ ?_⟩ | refine And.intro (hfI _ (by simp <;> omega)) ?_ | (refine And.intro ?_ ?_; focus (simp; done)) | fail)
      all_goals (conv => whnf)
      refine ⟨i + 1, hlt, by simp only []; omega, ?_⟩
      conv => whnf
      refine ⟨⟨.refl, .refl, .refl, dle_int (wrap_succ (by omega)), trivial⟩, ⟨ole_row ?_, trivial⟩, by rfl⟩
      rw [List.take_succ_eq_append_getElem hlt, List.map_append, List.map_append]
      rfl
    · have : i = l.length := by
        simp at h
        omega
      subst this
      rw [List.take_length]
      repeat' ((conv => whnf); first | refine And.intro (fun h => h) ?_ | refine dcond_t (by assumption) ?_ | refine dcond_f (by assumption) ?_ | (refine dcond_intro ?_ ?_ <;> intro h) | exact .refl | refine And.intro (by kernel_rfl) ?_ | refine And.intro ⟨fun h => h, fun h => h⟩ ?_ | refine .inr ⟨[0], _, _, _, _, _, m1, by rfl, ⟨.refl, trivial⟩, ⟨.refl, trivial⟩, ?_⟩ | refine .inr ⟨[0], _, _, _, _, _, m2, by rfl, ⟨.refl, trivial⟩, ⟨.refl, trivial⟩, ?_⟩ | (refine And.intro ?_ ?_; focus (simp; done)) | fail)
end Go.Proofs.Ytanolkidafeaeaa

set_option linter.unusedSimpArgs false
set_option linter.unusedVariables false
namespace Go.Proofs.Ytanolkidafeaeaa
open Go.Lift
/-! AlertsCount -/
theorem up_len : ∀ (l : List Int) (lo hi : Int), l.Pairwise (fun x y => x < y) → (∀ x ∈ l, lo ≤ x ∧ x < hi) → (l.length : Int) ≤ max 0 (hi - lo)
  | [], lo, hi, _, _ => by simp; omega
  | x :: t, lo, hi, h1, h2 => by
    rw [List.pairwise_cons] at h1
    have hx := h2 x (by simp)
    have ih := up_len t (x + 1) hi h1.2 (fun y hy => ⟨by have := h1.1 y hy; omega, (h2 y (by simp [hy])).2⟩)
    simp only [List.length_cons]
    omega
def cnA (l : List Alr) (X : List Int) (i : Nat) : Nat := l.countP fun a => decide (a.subj ∈ X.take i)
theorem cnA_succ {X : List Int} (hX : X.Pairwise fun x y => x < y) {i : Nat} (h : i < X.length) : ∀ l : List Alr, cnA l X (i + 1) = cnA l X i + (l.countP fun a => decide (a.subj = X[i]))
  | [] => rfl
  | a :: l => by
    have ih := cnA_succ hX h l
    unfold cnA at *
    rw [List.countP_cons, List.countP_cons, List.countP_cons, ih]
    have hni : X[i] ∉ X.take i := fun hm => by
      obtain ⟨j, hj, he⟩ := List.getElem_of_mem hm
      rw [List.getElem_take] at he
      rw [List.length_take] at hj
      have := List.pairwise_iff_getElem.1 hX j i (by omega) h (by omega)
      omega
    have hm : (a.subj ∈ X.take (i + 1)) ↔ (a.subj ∈ X.take i ∨ a.subj = X[i]) := by
      rw [List.take_succ_eq_append_getElem h, List.mem_append, List.mem_singleton]
    have key : ∀ (p q : Prop) [Decidable p] [Decidable q], ¬ (p ∧ q) → (if p ∨ q then 1 else 0) = (if p then 1 else 0) + (if q then 1 else 0) := by
      intro p q _ _ h
      by_cases hp : p <;> by_cases hq : q <;> simp_all
    simp only [decide_eq_true_eq, hm]
    rw [key (a.subj ∈ X.take i) (a.subj = X[i]) (fun h => hni (by have := h.1; rwa [h.2] at this))]
    omega
theorem cnA_all {l : List Alr} {X : List Int} (h : ∀ a ∈ l, a.subj ∈ X) : cnA l X X.length = l.length := by
  unfold cnA
  rw [List.take_length, List.countP_eq_length]
  intro a ha
  simpa using h a ha
theorem cnt_five {v : View} {l : List Alr} (h : valS v l = true) (s : Int) : l.countP (fun a => decide (a.subj = s)) ≤ 5 := by
  obtain ⟨_, hv, hs⟩ := valS_iff.1 h
  rw [List.countP_eq_length_filter]
  have h1 : ((l.filter fun a => decide (a.subj = s)).map (·.ring)).Pairwise fun x y => x < y := by
    rw [List.pairwise_map]
    refine List.Pairwise.imp_of_mem (fun {a b} ha hb hab => ?_) (hs.sublist (List.filter_sublist ..))
    have e1 : a.subj = s := by simpa using (List.mem_filter.1 ha).2
    have e2 : b.subj = s := by simpa using (List.mem_filter.1 hb).2
    simp only [lessB, Bool.or_eq_true, Bool.and_eq_true, decide_eq_true_eq] at hab
    omega
  have h2 := up_len _ 0 5 h1 (fun x hx => by
    obtain ⟨a, ha, rfl⟩ := List.mem_map.1 hx
    have := val_obs (hv a (List.mem_filter.1 ha).1)
    exact ⟨this.2.2.1, this.2.2.2.1⟩)
  rw [List.length_map] at h2
  omega
theorem cnt_pos {l : List Alr} {s : Int} (h : s ∈ l.map (·.subj)) : 0 < l.countP (fun a => decide (a.subj = s)) := by
  obtain ⟨a, ha, rfl⟩ := List.mem_map.1 h
  exact List.countP_pos_iff.2 ⟨a, ha, by simp⟩
theorem cnA_le (l : List Alr) (X : List Int) (i : Nat) : cnA l X i ≤ l.length := List.countP_le_length
theorem r6 (v : View) (hv : v.mem.length ≤ maxLen) (l : List Nat) (hl : l.length ≤ maxLen) (hlb : ∀ x ∈ l, x ≤ 65535) : Ret Try.prog 6 [.agg (viewE v), .lst 1 (l.map bE16) false] (.v (.bool true)) := by
  have e0 := c_ref3_Valid v hv
  refine ret_of_body (fn := Try.f6) (c := Try.f6.body.getD .skip) hm hT (by kernel_rfl) Try.func6 (by kernel_rfl) (by kernel_rfl) (by kernel_rfl) (by kernel_rfl) ?_
  repeat' ((conv => whnf); first | refine And.intro (fun h => h) ?_ | refine dcond_t (by assumption) ?_ | refine dcond_f (by assumption) ?_ | (refine dcond_intro ?_ ?_ <;> intro h) | exact .refl | refine And.intro (by kernel_rfl) ?_ | refine And.intro ⟨fun h => h, fun h => h⟩ ?_ | refine .inl ⟨_, _, DleAll_refl _, c_awake, ?_⟩ | refine ⟨_, _, DleAll_refl _, fun _ => c_awake, ?_⟩ | refine ⟨_, _, DleAll_refl _, c_awake, ?_⟩ | refine .inl ⟨_, _, DleAll_refl _, e0, ?_⟩ | refine ⟨_, _, DleAll_refl _, fun _ => e0, ?_⟩ | refine ⟨_, _, DleAll_refl _, e0, ?_⟩ | (refine And.intro ?_ ?_; focus (simp; done)) | fail)
  simp only [Bool.or_eq_false_iff, Bool.not_eq_false', decide_eq_false_iff_not, List.length_map] at h
  obtain ⟨hvw, h1⟩ := h
  obtain ⟨P, G, p1, g1, vG, lG⟩ := g_pairs v hv hvw l (by omega) hlb
  have e1 := c_Subjects G (by omega)
  have hXu := setI_up (G.map (·.subj))
  have hXm : ∀ x, x ∈ setI (G.map (·.subj)) ↔ x ∈ G.map (·.subj) := fun x => setI_mem
  have hXl := setI_len (G.map (·.subj))
  rw [List.length_map] at hXl
  generalize setI (G.map (·.subj)) = X at e1 hXu hXm hXl
  have hall := cnA_all (l := G) (X := X) (fun a ha => (hXm _).2 (List.mem_map.2 ⟨a, ha, rfl⟩))
  obtain ⟨tr, htr⟩ : ∃ b : Bool, b = true := ⟨true, rfl⟩
  rw [← htr] at g1
  clear e0 hvw
  repeat' ((conv => whnf); first | refine And.intro (fun h => h) ?_ | refine dcond_t (by assumption) ?_ | refine dcond_f (by assumption) ?_ | (refine dcond_intro ?_ ?_ <;> intro h) | exact .refl | refine And.intro (by kernel_rfl) ?_ | refine And.intro ⟨fun h => h, fun h => h⟩ ?_ | refine .inl ⟨_, _, DleAll_refl _, p1, ?_⟩ | refine ⟨_, _, DleAll_refl _, fun _ => p1, ?_⟩ | refine ⟨_, _, DleAll_refl _, p1, ?_⟩ | refine .inl ⟨_, _, DleAll_refl _, g1, ?_⟩ | refine ⟨_, _, DleAll_refl _, fun _ => g1, ?_⟩ | refine ⟨_, _, DleAll_refl _, g1, ?_⟩ | refine .inl ⟨_, _, DleAll_refl _, e1, ?_⟩ | refine ⟨_, _, DleAll_refl _, fun _ => e1, ?_⟩ | refine ⟨_, _, DleAll_refl _, e1, ?_⟩ | (refine And.intro ?_ ?_; focus (simp; done)) | fail)
  · exfalso
    simp [htr] at h
  · clear h
    conv => whnf
    refine ⟨Nat, fun i => ⟨[(5, .lst 4 (G.map alE) false), (7, i64 (cnA G X i : Nat)), (8, .lst 1 (X.map intE) false), (9, i64 i)], []⟩, fun i => i ≤ X.length, fun i => X.length - i, [], ⟨0, Nat.zero_le _, ?_⟩, ?_⟩
    · conv => whnf
      refine ⟨⟨.refl, dle_int ?_, .refl, .refl, trivial⟩, trivial, by rfl⟩
      have : cnA G X 0 = 0 := by simp [cnA]
      rw [this]
      rfl
    · intro i hi
      repeat' ((conv => whnf); first | refine And.intro (fun h => h) ?_ | refine dcond_t (by assumption) ?_ | refine dcond_f (by assumption) ?_ | (refine dcond_intro ?_ ?_ <;> intro h) | exact .refl | refine And.intro (by kernel_rfl) ?_ | refine And.intro ⟨fun h => h, fun h => h⟩ ?_ | (refine And.intro ?_ ?_; focus (simp; done)) | fail)
      · have hlt : i < X.length := by simpa using h
        clear h
        have ec := c_alerts_Count G (by omega) X[i]
        have hc1 := cnt_five vG X[i]
        have hc2 := cnt_pos ((hXm _).1 (List.getElem_mem hlt))
        have hce : cntS G X[i] G.length = G.countP (fun a => decide (a.subj = X[i])) := by rw [cntS, List.take_length]
        have hs := cnA_succ hXu hlt G
        have hal := cnA_le G X (i + 1)
        rw [hce] at ec
        generalize G.countP (fun a => decide (a.subj = X[i])) = k at *
        have hxi : (X.map intE)[i]? = some (intE X[i]) := by simp [hlt]
        have hix : decide ((i : Int) > 0) = true → IntKind.i64.wrap ((i : Int) - 1) = ((i - 1 : Nat) : Int) ∧ (X.map intE)[i - 1]? = some (intE (X.getD (i - 1) 0)) := fun h => by
          have h := of_decide_eq_true h
          have : i - 1 < X.length := by omega
          refine ⟨by rw [wrap_i64 (by omega) (by omega)]; omega, ?_⟩
          simp [this]
        have hix2 : ∀ c : Bool, (c && decide ((0 : Int) < (i : Int))) = true → IntKind.i64.wrap ((i : Int) - 1) = ((i - 1 : Nat) : Int) ∧ (X.map intE)[i - 1]? = some (intE (X.getD (i - 1) 0)) := fun c h => by
          rw [Bool.and_eq_true] at h
          exact hix h.2
        have hless : 0 < i → X.getD (i - 1) 0 < X[i] := fun h0 => by
          have h1 : i - 1 < X.length := by omega
          have hg : X.getD (i - 1) 0 = X[i - 1] := by simp [h1]
          rw [hg]
          exact List.pairwise_iff_getElem.1 hXu (i - 1) i h1 hlt (by omega)
        generalize X.getD (i - 1) 0 = xp at *
        repeat' ((conv => whnf); first | refine And.intro (fun h => h) ?_ | refine dcond_t (by assumption) ?_ | refine dcond_f (by assumption) ?_ | (refine dcond_intro ?_ ?_ <;> intro h) | exact .refl | refine And.intro (by kernel_rfl) ?_ | refine And.intro ⟨fun h => h, fun h => h⟩ ?_ | refine ⟨_, _, And.intro ⟨rfl, get_map hlt⟩ ?_⟩ | refine .inl ⟨_, _, DleAll_refl _, ec, ?_⟩ | refine ⟨_, _, DleAll_refl _, fun _ => ec, ?_⟩ | refine ⟨_, _, DleAll_refl _, ec, ?_⟩ | refine ⟨i, intE X[i], And.intro ⟨⟨fun h => h, fun h => h⟩, fun h => ⟨rfl, hxi⟩⟩ ?_⟩ | refine ⟨i - 1, intE xp, And.intro ⟨⟨fun h => h, fun h => h⟩, fun h => hix2 _ h⟩ ?_⟩ | (refine And.intro ?_ ?_; focus (simp; done)) | fail)
        all_goals (conv => whnf)
        · exfalso
          simp only [Bool.or_eq_true, Bool.and_eq_true, decide_eq_true_eq] at h
          rcases h with (h | h) | h
          · omega
          · omega
          · have := hless (by omega)
            omega
        · refine ⟨i + 1, hlt, by simp only []; omega, ?_⟩
          conv => whnf
          refine ⟨⟨.refl, dle_int ?_, .refl, dle_int (wrap_succ (by omega)), trivial⟩, trivial, by rfl⟩
          rw [hs, wrap_i64 (by omega) (by omega)]
          omega
      · have : i = X.length := by
          simp at h
          omega
        subst this
        rw [hall]
        repeat' ((conv => whnf); first | refine And.intro (fun h => h) ?_ | refine dcond_t (by assumption) ?_ | refine dcond_f (by assumption) ?_ | (refine dcond_intro ?_ ?_ <;> intro h) | exact .refl | refine And.intro (by kernel_rfl) ?_ | refine And.intro ⟨fun h => h, fun h => h⟩ ?_ | (refine And.intro ?_ ?_; focus (simp; done)) | fail)
        all_goals (conv => whnf)
        refine dle_bool ?_
        rw [List.length_map]
        exact decide_eq_true rfl
theorem law6 (dvs : List DV) (h : DatAll tt 5 [24, 25] dvs) : Ret Try.prog 6 dvs (.v (.bool true)) := by
  obtain ⟨b, _, rfl, hb, a, _, rfl, ha, rfl⟩ := h
  obtain ⟨v, rfl, hv⟩ := dat_view (n := 2) hb
  obtain ⟨l, rfl, hl, hlb⟩ := dat_u16s (n := 3) ha
  exact r6 v hv l hl hlb
end Go.Proofs.Ytanolkidafeaeaa
