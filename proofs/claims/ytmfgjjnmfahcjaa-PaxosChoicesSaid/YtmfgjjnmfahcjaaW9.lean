/- The laws of this seat, part W9: contracts of the functions, plain laws. No conditions. -/
import Derived.Test.YtmfgjjnmfahcjaaV9
set_option linter.unusedSimpArgs false
set_option linter.unusedVariables false
namespace Go.Proofs.Ytmfgjjnmfahcjaa
open Go.Lift
theorem vote_in {l : List Rpt} {cut : List Int} {j : Nat} (hj : j < l.length) (h : (decide (l[j].rank = 0) && sameI l[j].cut cut) = true) : votesN (boxOf (l.take (j + 1))) cut = votesN (boxOf (l.take j)) cut + 1 := by
  simp only [Bool.and_eq_true, decide_eq_true_eq] at h
  simp only [votesN, boxOf, List.take_succ_eq_append_getElem hj, List.filter_append, List.map_append, List.length_append]
  simp [h.1, h.2]
theorem vote_out {l : List Rpt} {cut : List Int} {j : Nat} (hj : j < l.length) (h : (decide (l[j].rank = 0) && sameI l[j].cut cut) = false) : votesN (boxOf (l.take (j + 1))) cut = votesN (boxOf (l.take j)) cut := by
  simp only [Bool.and_eq_false_iff, decide_eq_false_iff_not] at h
  simp only [votesN, boxOf, List.take_succ_eq_append_getElem hj, List.filter_append, List.map_append, List.length_append]
  by_cases h1 : l[j].rank = 0
  · rcases h with h | h
    · exact absurd h1 h
    · simp [h1, h]
  · simp [h1]
theorem vote_le (l : List Rpt) (cut : List Int) (j : Nat) : votesN (boxOf (l.take j)) cut ≤ j :=
  Nat.le_trans (List.length_filter_le _ _) (box_len l j)
/-- the fast round's question about report 'i' -/
def fastQ (v : View) (l : List Rpt) (r : Rpt) : Bool := decide (r.rank = 0) && decide (thrB v l ≤ (votesN (boxOf l) r.cut : Int))
theorem choose_fast {v : View} {l : List Rpt} {own : List Int} (h0 : gateB v l own = false) (h1 : decide (0 < (l.getD (hiAt l l.length) rpt0).rank) = false) {i : Nat} (hi : i < l.length) (h : fastQ v l l[i] = true) (hall : ∀ j (hj : j < l.length), j < i → fastQ v l l[j] = false) : chooseR v l own = (l[i].cut, true) := by
  have hf : (l.find? fun r => decide (r.rank = 0) && decide (thrB v l ≤ (votesN (boxOf l) r.cut : Int))) = some l[i] :=
    List.find?_eq_some_iff_getElem.2 ⟨h, i, hi, rfl, fun j hj => by
      have := hall j (by omega) hj
      simp only [fastQ] at this
      rw [this]; rfl⟩
  simp only [chooseR, h0, h1, cond_false, box_find, hf, Option.map_some]
theorem choose_own {v : View} {l : List Rpt} {own : List Int} (h0 : gateB v l own = false) (h1 : decide (0 < (l.getD (hiAt l l.length) rpt0).rank) = false) (hall : ∀ j (hj : j < l.length), fastQ v l l[j] = false) : chooseR v l own = (own, decide (0 < (own.length : Int))) := by
  have hf : (l.find? fun r => decide (r.rank = 0) && decide (thrB v l ≤ (votesN (boxOf l) r.cut : Int))) = none :=
    List.find?_eq_none.2 fun r hr => by
      obtain ⟨j, hj, rfl⟩ := List.getElem_of_mem hr
      have := hall j hj
      simp only [fastQ] at this
      simp [this]
  simp only [chooseR, h0, h1, cond_false, box_find, hf, Option.map_none]
  cases own with
  | nil => rfl
  | cons x l =>
    have e1 : decide (((x :: l).length : Int) = 0) = false := decide_eq_false (by simp only [List.length_cons]; omega)
    have e2 : decide (0 < ((x :: l).length : Int)) = true := decide_eq_true (by simp only [List.length_cons]; omega)
    rw [e1, e2]; rfl
theorem choose_hi {v : View} {l : List Rpt} {own : List Int} (h0 : gateB v l own = false) (h1 : decide (0 < (l.getD (hiAt l l.length) rpt0).rank) = true) : chooseR v l own = ((l.getD (hiAt l l.length) rpt0).cut, true) := by
  simp only [chooseR, h0, h1, cond_false, cond_true]
set_option maxRecDepth 100000 in
set_option maxHeartbeats 2000000 in
theorem r32 (v : View) (hv : v.mem.length ≤ 500000) (l : List Rpt) (hl : l.length ≤ 500000) (hc : ∀ r ∈ l, r.cut.length ≤ 500000) (own : List Int) (ho : own.length ≤ 500000) :
    Ret Try.prog 32 [.agg (viewE v), .lst 3 (l.map rptE) false, .lst 1 (own.map intE) false] (.tup [.lst 1 ((chooseR v l own).1.map intE) false, .v (.bool (chooseR v l own).2)]) := by
  have hl' : l.length ≤ maxLen := Nat.le_trans hl (by decide)
  have e34 := r34 v hv l hl' hc
  have e44 := c_ref3_Applicable v hv own ho
  have hgate : (!repsB v l || decide ((l.length : Int) < majB v.mem.length) || decide (0 < (own.length : Int)) && !decide ((nextR v own).2 = 0)) = gateB v l own := rfl
  have hchg : gateB v l own = true → chooseR v l own = ([], false) := fun h => by simp only [chooseR, h, cond_true]
  generalize repsB v l = b1 at e34 hgate
  generalize decide ((nextR v own).2 = 0) = b2 at e44 hgate
  refine ret_of_body (fn := Try.f32) (c := Try.f32.body.getD .skip) hm hT (by kernel_rfl) Try.func32 (by kernel_rfl) (by kernel_rfl) (by kernel_rfl) (by kernel_rfl) ?_
  repeat' ((conv => whnf); first | refine And.intro (fun h => h) ?_ | refine dcond_t (by assumption) ?_ | refine dcond_f (by assumption) ?_ | (refine dcond_intro ?_ ?_ <;> intro h) | exact .refl | refine And.intro (by kernel_rfl) ?_ | refine And.intro ⟨fun h => h, fun h => h⟩ ?_ | refine .inl ⟨_, _, DleAll_refl _, e34, ?_⟩ | refine ⟨_, _, DleAll_refl _, fun _ => e34, ?_⟩ | refine ⟨_, _, DleAll_refl _, e34, ?_⟩ | refine .inl ⟨_, _, DleAll_refl _, r55 _, ?_⟩ | refine ⟨_, _, DleAll_refl _, fun _ => r55 _, ?_⟩ | refine ⟨_, _, DleAll_refl _, r55 _, ?_⟩ | refine .inl ⟨_, _, DleAll_refl _, e44, ?_⟩ | refine ⟨_, _, DleAll_refl _, fun _ => e44, ?_⟩ | refine ⟨_, _, DleAll_refl _, e44, ?_⟩ | (refine And.intro ?_ ?_; focus (simp; done)) | fail)
  all_goals (conv => whnf)
  · have h : gateB v l own = true := by
      simp only [List.length_map] at h
      rw [← hgate]; exact h
    rw [hchg h]
    exact dle_tupA ⟨.nl, .refl, trivial⟩
  · have h0 : gateB v l own = false := by
      simp only [List.length_map] at h
      rw [← hgate]; exact h
    clear h
    refine ⟨Nat, fun i => ⟨[(1, .lst 3 (l.map rptE) false), (2, .lst 1 (own.map intE) false), (3, .lp 0 0), (8, i64 (bestAt l i)), (9, i64 i)], [.cells 44 (viewE v)]⟩, fun i => i ≤ l.length, fun i => l.length - i, [], ⟨0, Nat.zero_le _, ?_⟩, ?_⟩
    · exact ⟨by repeat' ((conv => whnf); first | exact trivial | refine And.intro (by (conv => arg 1; whnf); first | (with_reducible exact .refl) | exact dle_int (wrap_succ (by omega)) | exact .refl) ?_), by repeat' ((conv => whnf); first | exact trivial | refine And.intro ?_ ?_ | exact .refl), rfl⟩
    · intro i hi
      have hbc := best_cases l i
      have hby := @best_yes l i
      have hbn := @best_no l i
      have hq : bestQ l i = (decide (0 < (l.getD i rpt0).rank) && (decide (bestAt l i < 0) || decide ((l.getD (hiAt l i) rpt0).rank < (l.getD i rpt0).rank))) := rfl
      repeat' ((conv => whnf); first | refine And.intro (fun h => h) ?_ | refine dcond_t (by assumption) ?_ | refine dcond_f (by assumption) ?_ | (refine dcond_intro ?_ ?_ <;> intro h) | exact .refl | refine And.intro (by kernel_rfl) ?_ | refine And.intro ⟨fun h => h, fun h => h⟩ ?_ | (refine And.intro ?_ ?_; focus (simp; done)) | fail)
      · have hlt : i < l.length := by simpa using h
        clear h
        have hg : l.getD i rpt0 = l[i] := by simp [hlt]
        rw [hg] at hq
        have hhl : hiAt l i < l.length := Nat.lt_of_le_of_lt (hiAt_le l i) hlt
        have hb : ¬ bestAt l i < 0 → bestAt l i = ((hiAt l i : Nat) : Int) ∧ (l.map rptE)[hiAt l i]? = some (rptE (l.getD (hiAt l i) rpt0)) := fun hn => by
          refine ⟨?_, by simp [hhl]⟩
          rcases hbc with ⟨h3, _⟩ | ⟨h3, _⟩
          · omega
          · exact h3
        generalize bestAt l i = B at hb hq hbn
        generalize l.getD (hiAt l i) rpt0 = H at hb hq
        repeat' ((conv => whnf); first | refine And.intro (fun h => h) ?_ | refine dcond_t (by assumption) ?_ | refine dcond_f (by assumption) ?_ | (refine dcond_intro ?_ ?_ <;> intro h) | exact .refl | refine And.intro (by kernel_rfl) ?_ | refine And.intro ⟨fun h => h, fun h => h⟩ ?_ | refine ⟨_, _, And.intro ⟨rfl, get_map hlt⟩ ?_⟩ | refine ⟨i, rptE (l[i]'hlt), And.intro ⟨⟨fun h => h, fun h => h⟩, fun hg => ⟨rfl, get_map hlt⟩⟩ ?_⟩ | refine ⟨hiAt l i, rptE H, And.intro ⟨⟨fun h => h, fun h => h⟩, fun hg => hb (by have := ((Bool.and_eq_true ..).mp hg).2 <;> simpa using this)⟩ ?_⟩ | (refine And.intro ?_ ?_; focus (simp; done)) | fail)
        all_goals (conv => whnf)
        · refine ⟨i + 1, hlt, by simp only []; omega, ?_⟩
          refine ⟨⟨.refl, .refl, .refl, dle_int (hby (hq.trans h)).symm, dle_int (wrap_succ (by omega)), trivial⟩, ⟨.refl, trivial⟩, rfl⟩
        · refine ⟨i + 1, hlt, by simp only []; omega, ?_⟩
          refine ⟨⟨.refl, .refl, .refl, dle_int (hbn (hq.trans h)).symm, dle_int (wrap_succ (by omega)), trivial⟩, ⟨.refl, trivial⟩, rfl⟩
      · rename_i hx
        have hge : ¬ i < l.length := by simpa using hx
        have : i = l.length := by omega
        subst this
        clear hx hby hbn hq
        rcases hbc with ⟨h3, _⟩ | ⟨h3, h4, h5⟩
        · rw [h3] at h
          cases h
        · have hlt := hiAt_lt l h5
          have hg : l.getD (hiAt l l.length) rpt0 = l[hiAt l l.length] := by simp [hlt]
          have hch := choose_hi (own := own) h0 (by simpa using h4)
          rw [hg] at hch
          conv => whnf
          repeat' ((conv => whnf); first | refine And.intro (fun h => h) ?_ | refine dcond_t (by assumption) ?_ | refine dcond_f (by assumption) ?_ | (refine dcond_intro ?_ ?_ <;> intro h) | exact .refl | refine And.intro (by kernel_rfl) ?_ | refine And.intro ⟨fun h => h, fun h => h⟩ ?_ | refine ⟨hiAt l l.length, rptE (l[hiAt l l.length]'hlt), And.intro ⟨h3, get_map hlt⟩ ?_⟩ | (refine And.intro ?_ ?_; focus (simp; done)) | fail)
          all_goals (conv => whnf)
          rw [hch]
          exact .refl
      · rename_i hx
        have hge : ¬ i < l.length := by simpa using hx
        have : i = l.length := by omega
        subst this
        clear hx hby hbn hq
        have hpos := (gate_pos h0).1
        have h1 : decide (0 < (l.getD (hiAt l l.length) rpt0).rank) = false := by
          rcases hbc with ⟨h3, h4⟩ | ⟨h3, _⟩
          · exact decide_eq_false (by have := h4 hpos; omega)
          · rw [h3] at h
            simp at h
        clear h hbc
        have hfa := fun i (hi : i < l.length) => choose_fast (own := own) h0 h1 (i := i) hi
        have how := choose_own (own := own) h0 h1
        repeat' ((conv => whnf); first | refine And.intro (fun h => h) ?_ | refine dcond_t (by assumption) ?_ | refine dcond_f (by assumption) ?_ | (refine dcond_intro ?_ ?_ <;> intro h) | exact .refl | refine And.intro (by kernel_rfl) ?_ | refine And.intro ⟨fun h => h, fun h => h⟩ ?_ | refine .inl ⟨_, _, DleAll_refl _, r56 _, ?_⟩ | refine ⟨_, _, DleAll_refl _, fun _ => r56 _, ?_⟩ | refine ⟨_, _, DleAll_refl _, r56 _, ?_⟩ | (refine And.intro ?_ ?_; focus (simp; done)) | fail)
        all_goals (conv => whnf)
        refine ⟨Nat, fun i => ⟨[(1, .lst 3 (l.map rptE) false), (2, .lst 1 (own.map intE) false), (10, i64 (thrB v l)), (11, i64 i)], [.cells 44 (viewE v)]⟩, fun i => i ≤ l.length ∧ ∀ j (hj : j < l.length), j < i → fastQ v l l[j] = false, fun i => l.length - i, [], ⟨0, ⟨Nat.zero_le _, by omega⟩, ?_⟩, ?_⟩
        · refine ⟨⟨.refl, .refl, dle_int (by simp [thrB]), .refl, trivial⟩, ⟨.refl, trivial⟩, rfl⟩
        · intro i ⟨hi, hall⟩
          repeat' ((conv => whnf); first | refine And.intro (fun h => h) ?_ | refine dcond_t (by assumption) ?_ | refine dcond_f (by assumption) ?_ | (refine dcond_intro ?_ ?_ <;> intro h) | exact .refl | refine And.intro (by kernel_rfl) ?_ | refine And.intro ⟨fun h => h, fun h => h⟩ ?_ | (refine And.intro ?_ ?_; focus (simp; done)) | fail)
          · have hlt : i < l.length := by simpa using h
            clear h
            conv => whnf
            refine ⟨Nat, fun j => ⟨[(1, .lst 3 (l.map rptE) false), (2, .lst 1 (own.map intE) false), (10, i64 (thrB v l)), (11, i64 i), (12, i64 (votesN (boxOf (l.take j)) (l[i]'hlt).cut)), (13, i64 j)], [.cells 44 (viewE v)]⟩, fun j => j ≤ l.length, fun j => l.length - j, [], ⟨0, Nat.zero_le _, ?_⟩, ?_⟩
            · refine ⟨⟨.refl, .refl, .refl, .refl, .refl, .refl, trivial⟩, ⟨.refl, trivial⟩, rfl⟩
            · intro j hj
              have hvl := vote_le l (l[i]).cut j
              repeat' ((conv => whnf); first | refine And.intro (fun h => h) ?_ | refine dcond_t (by assumption) ?_ | refine dcond_f (by assumption) ?_ | (refine dcond_intro ?_ ?_ <;> intro h) | exact .refl | refine And.intro (by kernel_rfl) ?_ | refine And.intro ⟨fun h => h, fun h => h⟩ ?_ | (refine And.intro ?_ ?_; focus (simp; done)) | fail)
              · have hlt2 : j < l.length := by simpa using h
                clear h
                have hvi := vote_in (cut := (l[i]).cut) hlt2
                have hvo := vote_out (cut := (l[i]).cut) hlt2
                have e := c_ref1_SameInts (l[j].cut) (l[i].cut) (Nat.le_trans (hc _ (List.getElem_mem hlt2)) (by decide))
                generalize sameI l[j].cut l[i].cut = sb at e hvi hvo
                generalize votesN (boxOf (l.take j)) (l[i]).cut = n at hvl hvi hvo
                repeat' ((conv => whnf); first | refine And.intro (fun h => h) ?_ | refine dcond_t (by assumption) ?_ | refine dcond_f (by assumption) ?_ | (refine dcond_intro ?_ ?_ <;> intro h) | exact .refl | refine And.intro (by kernel_rfl) ?_ | refine And.intro ⟨fun h => h, fun h => h⟩ ?_ | refine ⟨_, _, And.intro ⟨rfl, get_map hlt2⟩ ?_⟩ | refine .inl ⟨_, _, DleAll_refl _, e, ?_⟩ | refine ⟨_, _, DleAll_refl _, fun _ => e, ?_⟩ | refine ⟨_, _, DleAll_refl _, e, ?_⟩ | refine ⟨j, rptE (l[j]'hlt2), And.intro ⟨⟨fun h => h, fun h => h⟩, fun hg => ⟨rfl, get_map hlt2⟩⟩ ?_⟩ | refine ⟨i, rptE (l[i]'hlt), And.intro ⟨⟨fun h => h, fun h => h⟩, fun hg => ⟨rfl, get_map hlt⟩⟩ ?_⟩ | (refine And.intro ?_ ?_; focus (simp; done)) | fail)
                all_goals (conv => whnf)
                · refine ⟨j + 1, hlt2, by simp only []; omega, ?_⟩
                  refine ⟨⟨.refl, .refl, .refl, .refl, dle_int (by rw [hvi h, wrap_succ (i := n) (by omega)]), dle_int (wrap_succ (by omega)), trivial⟩, ⟨.refl, trivial⟩, rfl⟩
                · refine ⟨j + 1, hlt2, by simp only []; omega, ?_⟩
                  refine ⟨⟨.refl, .refl, .refl, .refl, dle_int (by rw [hvo h]), dle_int (wrap_succ (by omega)), trivial⟩, ⟨.refl, trivial⟩, rfl⟩
              · have hge : ¬ j < l.length := by simpa using h
                have : j = l.length := by omega
                subst this
                clear h
                rw [List.take_length]
                have hfi := hfa i hlt
                have hfq : fastQ v l l[i] = (decide ((l[i]).rank = 0) && decide (thrB v l ≤ (votesN (boxOf l) (l[i]).cut : Int))) := rfl
                generalize votesN (boxOf l) (l[i]).cut = n at hfq
                generalize thrB v l = T at hfq
                repeat' ((conv => whnf); first | refine And.intro (fun h => h) ?_ | refine dcond_t (by assumption) ?_ | refine dcond_f (by assumption) ?_ | (refine dcond_intro ?_ ?_ <;> intro h) | exact .refl | refine And.intro (by kernel_rfl) ?_ | refine And.intro ⟨fun h => h, fun h => h⟩ ?_ | refine ⟨_, _, And.intro ⟨rfl, get_map hlt⟩ ?_⟩ | (refine And.intro ?_ ?_; focus (simp; done)) | fail)
                all_goals (conv => whnf)
                · rw [hfi (hfq.trans h) hall]
                  exact .refl
                · refine ⟨i + 1, ⟨hlt, fun j hj hji => ?_⟩, by simp only []; omega, ?_⟩
                  · rcases Nat.lt_succ_iff_lt_or_eq.1 hji with hji | rfl
                    · exact hall j hj hji
                    · exact hfq.trans h
                  · exact ⟨⟨.refl, .refl, .refl, dle_int (wrap_succ (by omega)), trivial⟩, ⟨.refl, trivial⟩, rfl⟩
          · have hge : ¬ i < l.length := by simpa using h
            clear h
            conv => whnf
            rw [how fun j hj => hall j hj (by omega)]
            simp only [List.length_map]
            exact .refl
end Go.Proofs.Ytmfgjjnmfahcjaa
