/- The laws of this seat, part K9: contracts of the functions, plain laws. No conditions. -/
import Derived.Test.YtmfgjjnmfahcjaaJ9
set_option linter.unusedSimpArgs false
set_option linter.unusedVariables false
namespace Go.Proofs.Ytmfgjjnmfahcjaa
open Go.Lift
def hiAt (l : List Rpt) : Nat → Nat
  | 0 => 0
  | i + 1 => bif decide ((l.getD (hiAt l i) rpt0).rank < (l.getD i rpt0).rank) then i else hiAt l i
theorem hiAt_le (l : List Rpt) : ∀ i, hiAt l i ≤ i
  | 0 => Nat.le_refl _
  | i + 1 => by
    have := hiAt_le l i
    unfold hiAt
    cases decide ((l.getD (hiAt l i) rpt0).rank < (l.getD i rpt0).rank) <;> simp <;> omega
def boxOf (l : List Rpt) : List Bal := (l.filter fun r => decide (r.rank = 0)).map fun r => ⟨r.mem, r.cut⟩
def thrB (v : View) (l : List Rpt) : Int := IntKind.i64.wrap (IntKind.i64.wrap (fastB v.mem.length + (l.length : Int)) - (v.mem.length : Int))
def gateB (v : View) (l : List Rpt) (own : List Int) : Bool := !repsB v l || decide ((l.length : Int) < majB v.mem.length) || decide (0 < (own.length : Int)) && !decide ((nextR v own).2 = 0)
def chooseR (v : View) (l : List Rpt) (own : List Int) : List Int × Bool :=
  bif gateB v l own then ([], false)
  else bif decide (0 < (l.getD (hiAt l l.length) rpt0).rank) then ((l.getD (hiAt l l.length) rpt0).cut, true)
  else match (boxOf l).find? (fun b => decide (thrB v l ≤ (votesN (boxOf l) b.cut : Int))) with
    | some b => (b.cut, true)
    | none => bif decide ((own.length : Int) = 0) then ([], false) else (own, true)
theorem hi_in {l : List Rpt} {i : Nat} (h1 : i < l.length) (h2 : hiAt l i < l.length) (h : decide ((l[hiAt l i]'h2).rank < (l[i]'h1).rank) = true) : hiAt l (i + 1) = i := by
  have e1 : l.getD (hiAt l i) rpt0 = l[hiAt l i] := by simp [h2]
  have e2 : l.getD i rpt0 = l[i] := by simp [h1]
  simp only [hiAt, e1, e2, h, cond_true]
theorem hi_out {l : List Rpt} {i : Nat} (h1 : i < l.length) (h2 : hiAt l i < l.length) (h : decide ((l[hiAt l i]'h2).rank < (l[i]'h1).rank) = false) : hiAt l (i + 1) = hiAt l i := by
  have e1 : l.getD (hiAt l i) rpt0 = l[hiAt l i] := by simp [h2]
  have e2 : l.getD i rpt0 = l[i] := by simp [h1]
  simp only [hiAt, e1, e2, h, cond_false]
theorem box_len (l : List Rpt) (i : Nat) : (boxOf (l.take i)).length ≤ i := by
  simp only [boxOf, List.length_map]
  exact Nat.le_trans (List.length_filter_le _ _) (by simp; omega)
theorem box_in {l : List Rpt} {i : Nat} (h1 : i < l.length) (h : decide ((l[i]'h1).rank = 0) = true) : (boxOf (l.take i)).map balE ++ [balE ⟨(l[i]'h1).mem, (l[i]'h1).cut⟩] = (boxOf (l.take (i + 1))).map balE := by
  simp only [boxOf, List.take_succ_eq_append_getElem h1, List.filter_append, List.map_append]
  simp only [List.filter_cons, h, if_true, List.filter_nil, List.map_cons, List.map_nil]
theorem box_out {l : List Rpt} {i : Nat} (h1 : i < l.length) (h : decide ((l[i]'h1).rank = 0) = false) : (boxOf (l.take i)).map balE = (boxOf (l.take (i + 1))).map balE := by
  simp only [boxOf, List.take_succ_eq_append_getElem h1, List.filter_append, List.map_append]
  simp [List.filter_cons, h]
theorem hiAt_lt (l : List Rpt) {n : Nat} (h : 0 < n) : hiAt l n < n := by
  obtain ⟨i, rfl⟩ : ∃ i, n = i + 1 := ⟨n - 1, by omega⟩
  have := hiAt_le l i
  unfold hiAt
  cases decide ((l.getD (hiAt l i) rpt0).rank < (l.getD i rpt0).rank) <;> simp <;> omega
theorem maj_pos {n : Nat} (h1 : 1 ≤ n) (h2 : n ≤ 16) : 1 ≤ majB n := by
  have e : (!(decide (1 ≤ (n : Int)) && decide ((n : Int) ≤ 16))) = false := by simp; omega
  have e2 : Int.tdiv (n : Int) 2 = ((n / 2 : Nat) : Int) := rfl
  simp only [majB, e, cond_false, e2]
  rw [wrap_i64 (n := ((n / 2 : Nat) : Int)) (by omega) (by omega), wrap_i64 (by omega) (by omega)]
  omega
theorem gate_pos {v : View} {l : List Rpt} {own : List Int} (h : gateB v l own = false) : 0 < l.length ∧ 1 ≤ v.mem.length ∧ v.mem.length ≤ 16 := by
  simp only [gateB, Bool.or_eq_false_iff, Bool.not_eq_false', decide_eq_false_iff_not] at h
  obtain ⟨⟨h1, h2⟩, _⟩ := h
  simp only [repsB, viewB, idsB, Bool.and_eq_true, Bool.not_eq_true', Bool.or_eq_false_iff, decide_eq_false_iff_not] at h1
  have h3 := h1.1.2.1
  have := maj_pos (n := v.mem.length) (by omega) (by omega)
  omega
theorem box_cut {l : List Rpt} {N : Nat} (hc : ∀ r ∈ l, r.cut.length ≤ N) : ∀ b ∈ boxOf l, b.cut.length ≤ N := by
  intro b hb
  simp only [boxOf, List.mem_map, List.mem_filter] at hb
  obtain ⟨r, ⟨hr, _⟩, rfl⟩ := hb
  exact hc r hr
theorem fits2 {n : Nat} (h : n ≤ 2000000) : fitsIn tt 78 n := by
  have e : (tinfo tt 78).bytes = 32 := by kernel_rfl
  refine ⟨?_, ?_⟩
  · rw [e]; omega
  · simp only [maxLen]; omega
theorem r28 (v : View) (hv : v.mem.length ≤ 500000) (l : List Rpt) (hl : l.length ≤ 500000) (hc : ∀ r ∈ l, r.cut.length ≤ 500000) (own : List Int) (ho : own.length ≤ 500000) :
    Ret Try.prog 28 [.agg (viewE v), .lst 3 (l.map rptE) false, .lst 1 (own.map intE) false] (.tup [.lst 1 ((chooseR v l own).1.map intE) false, .v (.bool (chooseR v l own).2)]) := by
  have hl' : l.length ≤ maxLen := Nat.le_trans hl (by decide)
  refine ret_of_body (fn := Try.f28) (c := Try.f28.body.getD .skip) hm hT (by kernel_rfl) Try.func28 (by kernel_rfl) (by kernel_rfl) (by kernel_rfl) (by kernel_rfl) ?_
  repeat' ((conv => whnf); first | refine And.intro (fun h => h) ?_ | refine dcond_t (by assumption) ?_ | refine dcond_f (by assumption) ?_ | (refine dcond_intro ?_ ?_ <;> intro h) | exact .refl | refine And.intro (by kernel_rfl) ?_ | refine And.intro ⟨fun h => h, fun h => h⟩ ?_ | refine .inl ⟨_, _, DleAll_refl _, r33 _ hv _ hl' hc, ?_⟩ | refine ⟨_, _, DleAll_refl _, r33 _ hv _ hl' hc, ?_⟩ | refine ⟨_, _, DleAll_refl _, fun _ => r33 _ hv _ hl' hc, ?_⟩ | refine .inl ⟨_, _, DleAll_refl _, r47 _, ?_⟩ | refine ⟨_, _, DleAll_refl _, r47 _, ?_⟩ | refine ⟨_, _, DleAll_refl _, fun _ => r47 _, ?_⟩ | refine .inl ⟨_, _, DleAll_refl _, r48 _ hv _ ho, ?_⟩ | refine ⟨_, _, DleAll_refl _, r48 _ hv _ ho, ?_⟩ | refine ⟨_, _, DleAll_refl _, fun _ => r48 _ hv _ ho, ?_⟩ | (refine And.intro ?_ ?_; focus (simp; done)) | fail)
  all_goals (conv => whnf)
  · have h : gateB v l own = true := by
      simp only [List.length_map] at h
      exact h
    simp only [chooseR, h, cond_true]
    exact dle_tupA ⟨.nl, .refl, trivial⟩
  · have h0 := h
    clear h
    refine ⟨Nat, fun i => ⟨[(1, .lst 3 (l.map rptE) false), (2, .lst 1 (own.map intE) false), (8, i64 (v.mem.map intE).length), (9, i64 (hiAt l i)), (10, .own 1), (40, .lst 3 (l.map rptE) false), (41, i64 (l.map rptE).length), (42, i64 i)], [.cells 44 (viewE v), .row 78 2 ((boxOf (l.take i)).map balE)]⟩, fun i => i ≤ l.length, fun i => l.length - i, [.slot 10 78 2], ⟨0, Nat.zero_le _, ?_⟩, ?_⟩
    · conv => whnf
      exact ⟨by repeat' ((conv => whnf); first | exact trivial | refine And.intro (by (conv => arg 1; whnf); first | (with_reducible exact .refl) | exact dle_int (wrap_succ (by omega)) | exact .refl) ?_), by repeat' ((conv => whnf); first | exact trivial | refine And.intro ?_ ?_ | exact .refl), rfl⟩
    · intro i hi
      repeat' ((conv => whnf); first | refine And.intro (fun h => h) ?_ | refine dcond_t (by assumption) ?_ | refine dcond_f (by assumption) ?_ | (refine dcond_intro ?_ ?_ <;> intro h) | exact .refl | refine And.intro (by kernel_rfl) ?_ | refine And.intro ⟨fun h => h, fun h => h⟩ ?_ | (refine And.intro ?_ ?_; focus (simp; done)) | fail)
      · have hlt : i < l.length := by simpa using h
        clear h
        have hle := hiAt_le l i
        have hlt2 : hiAt l i < l.length := by omega
        repeat' ((conv => whnf); first | refine And.intro (fun h => h) ?_ | refine dcond_t (by assumption) ?_ | refine dcond_f (by assumption) ?_ | (refine dcond_intro ?_ ?_ <;> intro h) | exact .refl | refine And.intro (by kernel_rfl) ?_ | refine And.intro ⟨fun h => h, fun h => h⟩ ?_ | refine ⟨_, _, And.intro ⟨rfl, get_map hlt⟩ ?_⟩ | refine ⟨_, _, And.intro ⟨rfl, get_map hlt2⟩ ?_⟩ | (refine And.intro ?_ ?_; focus (simp; done)) | fail)
        all_goals (conv => whnf)
        · rename_i hr
          have hb := box_len l i
          refine And.intro (fits2 (by simp; omega)) ?_
          repeat' ((conv => whnf); first | refine And.intro (fun h => h) ?_ | refine dcond_t (by assumption) ?_ | refine dcond_f (by assumption) ?_ | (refine dcond_intro ?_ ?_ <;> intro h) | exact .refl | refine And.intro (by kernel_rfl) ?_ | refine And.intro ⟨fun h => h, fun h => h⟩ ?_ | (refine And.intro ?_ ?_; focus (simp; done)) | fail)
          all_goals (conv => whnf)
          refine ⟨i + 1, hlt, by simp only []; omega, ?_⟩
          refine ⟨⟨.refl, .refl, .refl, dle_int (by rw [hi_in hlt hlt2 hr]), .refl, .refl, .refl, dle_int (wrap_succ (by omega)), trivial⟩, ⟨.refl, ole_row (box_in hlt h), trivial⟩, rfl⟩
        · rename_i hr
          refine ⟨i + 1, hlt, by simp only []; omega, ?_⟩
          refine ⟨⟨.refl, .refl, .refl, dle_int (by rw [hi_in hlt hlt2 hr]), .refl, .refl, .refl, dle_int (wrap_succ (by omega)), trivial⟩, ⟨.refl, ole_row (box_out hlt h), trivial⟩, rfl⟩
        · rename_i hr
          have hb := box_len l i
          refine And.intro (fits2 (by simp; omega)) ?_
          repeat' ((conv => whnf); first | refine And.intro (fun h => h) ?_ | refine dcond_t (by assumption) ?_ | refine dcond_f (by assumption) ?_ | (refine dcond_intro ?_ ?_ <;> intro h) | exact .refl | refine And.intro (by kernel_rfl) ?_ | refine And.intro ⟨fun h => h, fun h => h⟩ ?_ | (refine And.intro ?_ ?_; focus (simp; done)) | fail)
          all_goals (conv => whnf)
          refine ⟨i + 1, hlt, by simp only []; omega, ?_⟩
          refine ⟨⟨.refl, .refl, .refl, dle_int (by rw [hi_out hlt hlt2 hr]), .refl, .refl, .refl, dle_int (wrap_succ (by omega)), trivial⟩, ⟨.refl, ole_row (box_in hlt h), trivial⟩, rfl⟩
        · rename_i hr
          refine ⟨i + 1, hlt, by simp only []; omega, ?_⟩
          refine ⟨⟨.refl, .refl, .refl, dle_int (by rw [hi_out hlt hlt2 hr]), .refl, .refl, .refl, dle_int (wrap_succ (by omega)), trivial⟩, ⟨.refl, ole_row (box_out hlt h), trivial⟩, rfl⟩
      · have hge : ¬ i < l.length := by simpa using h
        have : i = l.length := by omega
        subst this
        clear h
        have h0 : gateB v l own = false := by
          simp only [List.length_map] at h0
          exact h0
        obtain ⟨hpos, hm1, hm2⟩ := gate_pos h0
        have hlt := hiAt_lt l hpos
        have hg : l.getD (hiAt l l.length) rpt0 = l[hiAt l l.length] := by simp [hlt]
        have hcc := hc _ (List.getElem_mem hlt)
        conv => whnf
        repeat' ((conv => whnf); first | refine And.intro (fun h => h) ?_ | refine dcond_t (by assumption) ?_ | refine dcond_f (by assumption) ?_ | (refine dcond_intro ?_ ?_ <;> intro h) | exact .refl | refine And.intro (by kernel_rfl) ?_ | refine And.intro ⟨fun h => h, fun h => h⟩ ?_ | refine ⟨_, _, And.intro ⟨rfl, get_map hlt⟩ ?_⟩ | refine .inl ⟨_, _, DleAll_refl _, r39 _ (Nat.le_trans hcc (by decide)), ?_⟩ | refine ⟨_, _, DleAll_refl _, r39 _ (Nat.le_trans hcc (by decide)), ?_⟩ | refine ⟨_, _, DleAll_refl _, fun _ => r39 _ (Nat.le_trans hcc (by decide)), ?_⟩ | (refine And.intro ?_ ?_; focus (simp; done)) | fail)
        all_goals (conv => whnf)
        · simp only [chooseR, h0, hg, h, cond_true, cond_false]
          exact .refl
        · have h1 := h
          clear h
          have hbl : (boxOf l).length ≤ 500000 := by
            have := box_len l l.length
            rw [List.take_length] at this
            omega
          have hbc := box_cut hc
          have e49 := fun cut => r49 (boxOf l) hbl (fun b hb => Nat.le_trans (hbc b hb) (by decide)) cut
          have htk : l.take l.length = l := List.take_length
          rw [htk]
          refine ⟨Nat, fun i => ⟨[(1, .lst 3 (l.map rptE) false), (2, .lst 1 (own.map intE) false), (8, i64 (v.mem.map intE).length), (10, .own 1), (80, .own 1), (81, i64 (boxOf l).length), (82, i64 i)], [.cells 44 (viewE v), .row 78 2 ((boxOf l).map balE)]⟩, fun i => i ≤ (boxOf l).length ∧ ∀ j (hj : j < (boxOf l).length), j < i → decide (thrB v l ≤ (votesN (boxOf l) (boxOf l)[j].cut : Int)) = false, fun i => (boxOf l).length - i, [], ⟨0, ⟨Nat.zero_le _, by omega⟩, ?_⟩, ?_⟩
          · refine ⟨⟨.refl, .refl, .refl, .refl, .refl, dle_int (by simp), .refl, trivial⟩, ⟨.refl, .refl, trivial⟩, rfl⟩
          · intro i ⟨hi, hall⟩
            repeat' ((conv => whnf); first | refine And.intro (fun h => h) ?_ | refine dcond_t (by assumption) ?_ | refine dcond_f (by assumption) ?_ | (refine dcond_intro ?_ ?_ <;> intro h) | exact .refl | refine And.intro (by kernel_rfl) ?_ | refine And.intro ⟨fun h => h, fun h => h⟩ ?_ | refine .inl ⟨_, _, DleAll_refl _, r39 _ (Nat.le_trans ho (by decide)), ?_⟩ | refine ⟨_, _, DleAll_refl _, r39 _ (Nat.le_trans ho (by decide)), ?_⟩ | refine ⟨_, _, DleAll_refl _, fun _ => r39 _ (Nat.le_trans ho (by decide)), ?_⟩ | (refine And.intro ?_ ?_; focus (simp; done)) | fail)
            · have hlt : i < (boxOf l).length := by simpa using h
              clear h
              have hlt3 : i < ((boxOf l).map balE).length := by simpa using hlt
              have hes : ((boxOf l).map balE)[i]? = some (balE ((boxOf l)[i]'hlt)) := get_map hlt
              have hcc := hbc _ (List.getElem_mem hlt)
              repeat' ((conv => whnf); first | refine And.intro (fun h => h) ?_ | refine dcond_t (by assumption) ?_ | refine dcond_f (by assumption) ?_ | (refine dcond_intro ?_ ?_ <;> intro h) | exact .refl | refine And.intro (by kernel_rfl) ?_ | refine And.intro ⟨fun h => h, fun h => h⟩ ?_ | refine .inl ⟨_, _, DleAll_refl _, e49 _, ?_⟩ | refine ⟨_, _, DleAll_refl _, e49 _, ?_⟩ | refine ⟨_, _, DleAll_refl _, fun _ => e49 _, ?_⟩ | refine .inl ⟨_, _, DleAll_refl _, r50 _, ?_⟩ | refine ⟨_, _, DleAll_refl _, r50 _, ?_⟩ | refine ⟨_, _, DleAll_refl _, fun _ => r50 _, ?_⟩ | refine .inl ⟨_, _, DleAll_refl _, r39 _ (Nat.le_trans hcc (by decide)), ?_⟩ | refine ⟨_, _, DleAll_refl _, r39 _ (Nat.le_trans hcc (by decide)), ?_⟩ | refine ⟨_, _, DleAll_refl _, fun _ => r39 _ (Nat.le_trans hcc (by decide)), ?_⟩ | refine ⟨i, And.intro ⟨rfl, hlt3⟩ ?_⟩ | refine ⟨balE ((boxOf l)[i]'hlt), And.intro hes ?_⟩ | (refine And.intro ?_ ?_; focus (simp; done)) | fail)
              all_goals (conv => whnf)
              · have h : decide (thrB v l ≤ (votesN (boxOf l) (boxOf l)[i].cut : Int)) = true := by
                  simp only [List.length_map] at h
                  exact h
                have hf : (boxOf l).find? (fun b => decide (thrB v l ≤ (votesN (boxOf l) b.cut : Int))) = some (boxOf l)[i] :=
                  List.find?_eq_some_iff_getElem.2 ⟨h, i, hlt, rfl, fun j hj => by simpa using hall j (by omega) hj⟩
                simp only [chooseR, h0, hg, h1, hf, cond_true, cond_false]
                exact .refl
              · have h : decide (thrB v l ≤ (votesN (boxOf l) (boxOf l)[i].cut : Int)) = false := by
                  simp only [List.length_map] at h
                  exact h
                refine ⟨i + 1, ⟨hlt, fun j hj hji => ?_⟩, by simp only []; omega, ?_⟩
                · rcases Nat.lt_succ_iff_lt_or_eq.1 hji with hji | rfl
                  · exact hall j hj hji
                  · exact h
                · exact ⟨⟨.refl, .refl, .refl, .refl, .refl, .refl, dle_int (wrap_succ (by omega)), trivial⟩, ⟨.refl, .refl, trivial⟩, rfl⟩
            all_goals (conv => whnf)
            all_goals rename_i hx
            all_goals have hge : ¬ i < (boxOf l).length := by simpa using hx
            all_goals have hf : (boxOf l).find? (fun b => decide (thrB v l ≤ (votesN (boxOf l) b.cut : Int))) = none := List.find?_eq_none.2 (fun b hb => by
              obtain ⟨j, hj, rfl⟩ := List.getElem_of_mem hb
              simpa using hall j hj (by omega))
            all_goals rw [List.length_map] at h
            all_goals simp only [chooseR, h0, hg, h1, hf, h, cond_true, cond_false]
            · exact dle_tupA ⟨.nl, .refl, trivial⟩
            · exact .refl
end Go.Proofs.Ytmfgjjnmfahcjaa
