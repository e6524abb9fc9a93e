/- The laws of this seat, part U9: contracts of the functions, plain laws. No conditions. -/
import Derived.Test.YtmfgjjnmfahcjaaT9
set_option linter.unusedSimpArgs false
set_option linter.unusedVariables false
namespace Go.Proofs.Ytmfgjjnmfahcjaa
open Go.Lift
/-- what the loop of 'Put' has after 'i' reports -/
def putL (l : List Rpt) (r : Rpt) (i : Nat) : List Rpt := bif decide (frontN l r.mem < i) then l.take (frontN l r.mem) ++ [r] ++ (l.take i).drop (frontN l r.mem) else l.take i
theorem put_len (l : List Rpt) (r : Rpt) (i : Nat) : (putL l r i).length ≤ i + 1 := by
  have := frontN_le l r.mem
  unfold putL
  cases h : decide (frontN l r.mem < i) <;> simp at h <;> simp <;> omega
theorem front_ge {m : Int} : ∀ {l : List Rpt} (h : frontN l m < l.length), m ≤ l[frontN l m].mem
  | r :: l, h => by
    by_cases hr : r.mem < m
    · have e : frontN (r :: l) m = frontN l m + 1 := by simp [frontN, hr]
      have h2 : frontN l m < l.length := by rw [e] at h; simpa using h
      have := front_ge h2
      simp only [e]
      simpa using this
    · have e : frontN (r :: l) m = 0 := by simp [frontN, hr]
      simp only [e]
      simpa using hr
theorem put_now {l : List Rpt} {r : Rpt} {i : Nat} (hi : i < l.length) (h : (!decide (frontN l r.mem < i) && decide (r.mem ≤ l[i].mem)) = true) : frontN l r.mem = i := by
  simp only [Bool.and_eq_true, Bool.not_eq_true', decide_eq_false_iff_not, decide_eq_true_eq] at h
  rcases Nat.lt_or_ge i (frontN l r.mem) with h1 | h1
  · have := frontN_lt h1 hi
    omega
  · omega
theorem put_not {l : List Rpt} {r : Rpt} {i : Nat} (hi : i < l.length) (h : (!decide (frontN l r.mem < i) && decide (r.mem ≤ l[i].mem)) = false) : frontN l r.mem ≠ i := by
  intro e
  have h1 := front_ge (l := l) (m := r.mem) (by omega)
  simp only [Bool.and_eq_false_iff, Bool.not_eq_false', decide_eq_false_iff_not, decide_eq_true_eq] at h
  rcases h with h | h
  · omega
  · subst e; exact h h1
theorem put_step1 {l : List Rpt} {r : Rpt} {i : Nat} (hi : i < l.length) (h : frontN l r.mem = i) : putL l r i ++ [r] ++ [l[i]] = putL l r (i + 1) := by
  have e1 : decide (frontN l r.mem < i) = false := by simp; omega
  have e2 : decide (frontN l r.mem < i + 1) = true := by simp; omega
  simp only [putL, e1, e2, cond_true, cond_false, h]
  rw [List.take_succ_eq_append_getElem hi, List.drop_append_of_le_length (by simp; omega)]
  simp
theorem put_step2 {l : List Rpt} {r : Rpt} {i : Nat} (hi : i < l.length) (h : frontN l r.mem ≠ i) : putL l r i ++ [l[i]] = putL l r (i + 1) := by
  rcases Nat.lt_or_ge (frontN l r.mem) i with h1 | h1
  · have e1 : decide (frontN l r.mem < i) = true := by simp; omega
    have e2 : decide (frontN l r.mem < i + 1) = true := by simp; omega
    simp only [putL, e1, e2, cond_true]
    rw [List.take_succ_eq_append_getElem hi, List.drop_append_of_le_length (by simp; omega)]
    simp
  · have e1 : decide (frontN l r.mem < i) = false := by simp; omega
    have e2 : decide (frontN l r.mem < i + 1) = false := by simp; omega
    simp only [putL, e1, e2, cond_false]
    rw [List.take_succ_eq_append_getElem hi]
theorem put_end1 {l : List Rpt} {r : Rpt} (h : decide (frontN l r.mem < l.length) = true) : putL l r l.length = insR l r := by
  simp only [putL, h, cond_true, insR, List.take_length]
theorem put_end2 {l : List Rpt} {r : Rpt} (h : decide (frontN l r.mem < l.length) = false) : putL l r l.length ++ [r] = insR l r := by
  have := frontN_le l r.mem
  have e : frontN l r.mem = l.length := by simp at h; omega
  simp only [putL, h, cond_false, insR]
  simp [e]
theorem put_flag {l : List Rpt} {r : Rpt} {i : Nat} (h : frontN l r.mem ≠ i) : decide (frontN l r.mem < i) = decide (frontN l r.mem < i + 1) := by
  by_cases h1 : frontN l r.mem < i
  · have h2 : frontN l r.mem < i + 1 := by omega
    simp [h1, h2]
  · have h2 : ¬ frontN l r.mem < i + 1 := by omega
    simp [h1, h2]
set_option maxRecDepth 100000 in
theorem r54 (l : List Rpt) (hl : l.length ≤ 400000) (r : Rpt) (hn : ∀ x ∈ l, x.mem ≠ r.mem) : Ret Try.prog 54 [.lst 3 (l.map rptE) false, .agg (rptE r)] (.lst 3 ((insR l r).map rptE) false) := by
  refine ret_of_body (fn := Try.f54) (c := Try.f54.body.getD .skip) hm hT (by kernel_rfl) Try.func54 (by kernel_rfl) (by kernel_rfl) (by kernel_rfl) (by kernel_rfl) ?_
  repeat' ((conv => whnf); first | refine And.intro (fun h => h) ?_ | refine dcond_t (by assumption) ?_ | refine dcond_f (by assumption) ?_ | (refine dcond_intro ?_ ?_ <;> intro h) | exact .refl | refine And.intro (by kernel_rfl) ?_ | refine And.intro ⟨fun h => h, fun h => h⟩ ?_ | (refine And.intro ?_ ?_; focus (simp; done)) | fail)
  refine ⟨Nat, fun i => ⟨[(0, .lst 3 (l.map rptE) false), (3, .lp 0 0), (5, .own 1), (6, .v (.bool (decide (frontN l r.mem < i)))), (7, i64 i)], [.cells 32 (rptE r), .row 32 3 ((putL l r i).map rptE)]⟩, fun i => i ≤ l.length, fun i => l.length - i, [.slot 5 32 3], ⟨0, Nat.zero_le _, ?_⟩, ?_⟩
  · conv => whnf
    exact ⟨by repeat' ((conv => whnf); first | exact trivial | refine And.intro (by (conv => arg 1; whnf); first | (with_reducible exact .refl) | exact dle_int (wrap_succ (by omega)) | exact .refl) ?_), by repeat' ((conv => whnf); first | exact trivial | refine And.intro ?_ ?_ | exact .refl), rfl⟩
  · intro i hi
    have hpl := put_len l r i
    repeat' ((conv => whnf); first | refine And.intro (fun h => h) ?_ | refine dcond_t (by assumption) ?_ | refine dcond_f (by assumption) ?_ | (refine dcond_intro ?_ ?_ <;> intro h) | exact .refl | refine And.intro (by kernel_rfl) ?_ | refine And.intro ⟨fun h => h, fun h => h⟩ ?_ | (refine And.intro ?_ ?_; focus (simp; done)) | fail)
    · have hlt : i < l.length := by simpa using h
      clear h
      have hne := hn _ (List.getElem_mem hlt)
      repeat' ((conv => whnf); first | refine And.intro (fun h => h) ?_ | refine dcond_t (by assumption) ?_ | refine dcond_f (by assumption) ?_ | (refine dcond_intro ?_ ?_ <;> intro h) | exact .refl | refine And.intro (by kernel_rfl) ?_ | refine And.intro ⟨fun h => h, fun h => h⟩ ?_ | refine ⟨_, _, And.intro ⟨rfl, get_map hlt⟩ ?_⟩ | refine ⟨i, rptE (l[i]'hlt), And.intro ⟨⟨fun h => h, fun h => h⟩, fun hg => ⟨rfl, get_map hlt⟩⟩ ?_⟩ | (refine And.intro ?_ ?_; focus (simp; done)) | fail)
      all_goals (conv => whnf)
      · have e := put_now hlt h
        have hflag : decide (frontN l r.mem < i + 1) = true := by simp; omega
        refine And.intro (fitsR (by simp; omega)) ?_
        repeat' ((conv => whnf); first | refine And.intro (fun h => h) ?_ | refine dcond_t (by assumption) ?_ | refine dcond_f (by assumption) ?_ | (refine dcond_intro ?_ ?_ <;> intro h) | exact .refl | refine And.intro (by kernel_rfl) ?_ | refine And.intro ⟨fun h => h, fun h => h⟩ ?_ | refine ⟨_, _, And.intro ⟨rfl, get_map hlt⟩ ?_⟩ | (refine And.intro ?_ ?_; focus (simp; done)) | fail)
        all_goals (conv => whnf)
        · refine And.intro (fitsR (by simp; omega)) ?_
          repeat' ((conv => whnf); first | refine And.intro (fun h => h) ?_ | refine dcond_t (by assumption) ?_ | refine dcond_f (by assumption) ?_ | (refine dcond_intro ?_ ?_ <;> intro h) | exact .refl | refine And.intro (by kernel_rfl) ?_ | refine And.intro ⟨fun h => h, fun h => h⟩ ?_ | (refine And.intro ?_ ?_; focus (simp; done)) | fail)
          all_goals (conv => whnf)
          refine ⟨i + 1, hlt, by simp only []; omega, ?_⟩
          refine ⟨⟨.refl, .refl, .refl, dle_bool hflag.symm, dle_int (wrap_succ (by omega)), trivial⟩, ⟨.refl, ole_row ?_, trivial⟩, rfl⟩
          rw [← put_step1 hlt e]
          simp [rptE, dcells]
        · exact absurd (by simpa using h) hne
      · rename_i h0
        have e := put_not hlt h0
        refine And.intro (fitsR (by simp; omega)) ?_
        repeat' ((conv => whnf); first | refine And.intro (fun h => h) ?_ | refine dcond_t (by assumption) ?_ | refine dcond_f (by assumption) ?_ | (refine dcond_intro ?_ ?_ <;> intro h) | exact .refl | refine And.intro (by kernel_rfl) ?_ | refine And.intro ⟨fun h => h, fun h => h⟩ ?_ | (refine And.intro ?_ ?_; focus (simp; done)) | fail)
        all_goals (conv => whnf)
        refine ⟨i + 1, hlt, by simp only []; omega, ?_⟩
        refine ⟨⟨.refl, .refl, .refl, dle_bool (put_flag e), dle_int (wrap_succ (by omega)), trivial⟩, ⟨.refl, ole_row ?_, trivial⟩, rfl⟩
        rw [← put_step2 hlt e]
        simp [rptE, dcells]
      · exact absurd (by simpa using h) hne
    · rename_i hge0
      have hge : ¬ i < l.length := by simpa using hge0
      have : i = l.length := by omega
      subst this
      clear hge0
      have h : decide (frontN l r.mem < l.length) = false := by simpa using h
      conv => whnf
      refine And.intro (fitsR (by simp; omega)) ?_
      repeat' ((conv => whnf); first | refine And.intro (fun h => h) ?_ | refine dcond_t (by assumption) ?_ | refine dcond_f (by assumption) ?_ | (refine dcond_intro ?_ ?_ <;> intro h) | exact .refl | refine And.intro (by kernel_rfl) ?_ | refine And.intro ⟨fun h => h, fun h => h⟩ ?_ | (refine And.intro ?_ ?_; focus (simp; done)) | fail)
      all_goals (conv => whnf)
      refine dle_lst ?_
      rw [← put_end2 h]
      simp [rptE, dcells]
    · rename_i hge0
      have hge : ¬ i < l.length := by simpa using hge0
      have : i = l.length := by omega
      subst this
      clear hge0
      have h : decide (frontN l r.mem < l.length) = true := by simpa using h
      repeat' ((conv => whnf); first | refine And.intro (fun h => h) ?_ | refine dcond_t (by assumption) ?_ | refine dcond_f (by assumption) ?_ | (refine dcond_intro ?_ ?_ <;> intro h) | exact .refl | refine And.intro (by kernel_rfl) ?_ | refine And.intro ⟨fun h => h, fun h => h⟩ ?_ | (refine And.intro ?_ ?_; focus (simp; done)) | fail)
      all_goals (conv => whnf)
      refine dle_lst ?_
      rw [← put_end1 h]
/-- a list with the new report stays valid just if the report is, and its member is new -/
def addRef (v : View) (l : List Rpt) (r : Rpt) : List Rpt × Bool :=
  bif !repsB v l then ([], false) else bif !vrB v r || decide (0 ≤ ofB l r.mem) then (l, false) else (insR l r, true)
theorem r31 (v : View) (hv : v.mem.length ≤ 400000) (l : List Rpt) (hl : l.length ≤ 400000) (hc : ∀ r ∈ l, r.cut.length ≤ 400000) (r : Rpt) (hr : r.cut.length ≤ 400000) :
    Ret Try.prog 31 [.agg (viewE v), .lst 3 (l.map rptE) false, .agg (rptE r)] (.tup [.lst 3 ((addRef v l r).1.map rptE) false, .v (.bool (addRef v l r).2)]) := by
  have hlm : l.length ≤ maxLen := Nat.le_trans hl (by decide)
  have e34 := r34 v (Nat.le_trans hv (by omega)) l hlm (fun x hx => Nat.le_trans (hc x hx) (by omega))
  have e52 := r52 v (Nat.le_trans hv (by omega)) r (by omega)
  have e53 := r53 l hlm r.mem
  have e54 : decide (0 ≤ ofB l r.mem) = false → Ret Try.prog 54 [.lst 3 (l.map rptE) false, .agg (rptE r)] (.lst 3 ((insR l r).map rptE) false) := fun h => r54 l hl r (of_neg h)
  unfold addRef
  generalize repsB v l = b1 at e34
  generalize vrB v r = b2 at e52
  generalize ofB l r.mem = n at e53 e54
  refine ret_of_body (fn := Try.f31) (c := Try.f31.body.getD .skip) hm hT (by kernel_rfl) Try.func31 (by kernel_rfl) (by kernel_rfl) (by kernel_rfl) (by kernel_rfl) ?_
  repeat' ((conv => whnf); first | refine And.intro (fun h => h) ?_ | refine dcond_t (by assumption) ?_ | refine dcond_f (by assumption) ?_ | (refine dcond_intro ?_ ?_ <;> intro h) | exact .refl | refine And.intro (by kernel_rfl) ?_ | refine And.intro ⟨fun h => h, fun h => h⟩ ?_ | refine .inl ⟨_, _, DleAll_refl _, e34, ?_⟩ | refine ⟨_, _, DleAll_refl _, fun _ => e34, ?_⟩ | refine ⟨_, _, DleAll_refl _, e34, ?_⟩ | refine .inl ⟨_, _, DleAll_refl _, e52, ?_⟩ | refine ⟨_, _, DleAll_refl _, fun _ => e52, ?_⟩ | refine ⟨_, _, DleAll_refl _, e52, ?_⟩ | refine .inl ⟨_, _, DleAll_refl _, e53, ?_⟩ | refine ⟨_, _, DleAll_refl _, fun _ => e53, ?_⟩ | refine ⟨_, _, DleAll_refl _, e53, ?_⟩ | refine .inl ⟨_, _, DleAll_refl _, e54 (by simp_all), ?_⟩ | refine ⟨_, _, DleAll_refl _, fun _ => e54 (by simp_all), ?_⟩ | refine ⟨_, _, DleAll_refl _, e54 (by simp_all), ?_⟩ | (refine And.intro ?_ ?_; focus (simp; done)) | fail)
  all_goals (conv => whnf)
  all_goals simp only [*, cond_true, cond_false]
  · exact dle_tupA ⟨.nl, .refl, trivial⟩
  · exact .refl
  · exact .refl
/-- a list goes on being valid where a report is put in just if the report is valid (its member is new) -/
theorem reps_iff {v : View} (hv : viewB v = true) {l : List Rpt} : repsB v l = true ↔ (∀ r ∈ l, vrB v r = true) ∧ List.Pairwise (fun a b : Rpt => a.mem < b.mem) l := by
  have e : repsB v l = allB (okRef v l) l.length := by
    rw [repsB, hv, Bool.true_and]
    cases h : allB (okRef v l) l.length
    · cases h2 : allB (okRep v l) l.length
      · rfl
      · have := allB_true.2 (fun i hi => (ok_ref hv l hi).trans (allB_true.1 h2 i hi))
        rw [h] at this
        cases this
    · exact allB_true.2 (fun i hi => (ok_ref hv l hi).symm.trans (allB_true.1 h i hi))
  rw [e, allB_true]
  have hok : ∀ i (hi : i < l.length), okRef v l i = true ↔ vrB v l[i] = true ∧ (0 < i → (l.getD (i - 1) rpt0).mem < l[i].mem) := by
    intro i hi
    have hg : l.getD i rpt0 = l[i] := by simp [hi]
    simp only [okRef, hg, Bool.not_eq_true', Bool.or_eq_false_iff, Bool.not_eq_false', Bool.and_eq_false_iff, decide_eq_false_iff_not]
    constructor
    · rintro ⟨h1, h2⟩
      refine ⟨h1, fun h0 => ?_⟩
      rcases h2 with h2 | h2
      · omega
      · omega
    · rintro ⟨h1, h2⟩
      refine ⟨h1, ?_⟩
      by_cases h0 : 0 < i
      · have := h2 h0
        right; omega
      · left; omega
  constructor
  · intro h
    have h1 : ∀ i (hi : i < l.length), vrB v l[i] = true ∧ (0 < i → (l.getD (i - 1) rpt0).mem < l[i].mem) := fun i hi => (hok i hi).1 (h i hi)
    refine ⟨fun r hr => ?_, ?_⟩
    · obtain ⟨i, hi, rfl⟩ := List.getElem_of_mem hr
      exact (h1 i hi).1
    · rw [List.pairwise_iff_getElem]
      intro i j hi hj hij
      obtain ⟨d, rfl⟩ : ∃ d, j = i + 1 + d := ⟨j - (i + 1), by omega⟩
      clear hij
      induction d with
      | zero =>
        have := (h1 (i + 1) hj).2 (by omega)
        simpa [hi] using this
      | succ d ih =>
        have hj2 : i + 1 + d < l.length := by omega
        have k1 := ih hj2
        have k2 := (h1 (i + 1 + (d + 1)) hj).2 (by omega)
        have e2 : l.getD (i + 1 + (d + 1) - 1) rpt0 = l[i + 1 + d] := by
          have : i + 1 + (d + 1) - 1 = i + 1 + d := by omega
          rw [this]; simp [hj2]
        rw [e2] at k2
        omega
  · rintro ⟨h1, h2⟩ i hi
    refine (hok i hi).2 ⟨h1 _ (List.getElem_mem hi), fun h0 => ?_⟩
    have hi2 : i - 1 < l.length := by omega
    have := List.pairwise_iff_getElem.1 h2 (i - 1) i hi2 hi (by omega)
    simpa [hi2] using this
theorem ins_pair {l : List Rpt} {r : Rpt} (hp : List.Pairwise (fun a b : Rpt => a.mem < b.mem) l) : List.Pairwise (fun a b : Rpt => a.mem < b.mem) (insR l r) ↔ ∀ x ∈ l, x.mem ≠ r.mem := by
  induction l with
  | nil => simp [insR]
  | cons y l ih =>
    rw [List.pairwise_cons] at hp
    by_cases hy : y.mem < r.mem
    · have e : insR (y :: l) r = y :: insR l r := by simp [insR, frontN, hy]
      have hm : ∀ z, z ∈ insR l r ↔ z = r ∨ z ∈ l := fun z => by
        constructor
        · exact insR_mem
        · intro h
          simp only [insR, List.mem_append, List.mem_singleton]
          rcases h with rfl | h
          · exact .inl (.inr rfl)
          · rw [← List.take_append_drop (frontN l r.mem) l, List.mem_append] at h
            rcases h with h | h
            · exact .inl (.inl h)
            · exact .inr h
      rw [e, List.pairwise_cons, ih hp.2]
      constructor
      · rintro ⟨h1, h2⟩ x hx
        rcases List.mem_cons.1 hx with rfl | hx
        · omega
        · exact h2 x hx
      · intro h
        refine ⟨fun z hz => ?_, fun x hx => h x (List.mem_cons_of_mem _ hx)⟩
        rcases (hm z).1 hz with rfl | hz
        · exact hy
        · exact hp.1 z hz
    · have e : insR (y :: l) r = r :: y :: l := by simp [insR, frontN, hy]
      rw [e, List.pairwise_cons]
      constructor
      · rintro ⟨h1, h2⟩ x hx he
        have := h1 x hx
        omega
      · intro h
        refine ⟨fun z hz => ?_, List.pairwise_cons.2 hp⟩
        have h0 := h y (by simp)
        rcases List.mem_cons.1 hz with rfl | hz
        · omega
        · have := hp.1 z hz
          omega
theorem add_eq (v : View) (l : List Rpt) (r : Rpt) : addRef v l r = addR v l r := by
  unfold addRef addR
  cases hr : repsB v l
  · rfl
  · have hv : viewB v = true := by
      simp only [repsB, Bool.and_eq_true] at hr
      exact hr.1
    have hl := (reps_iff hv).1 hr
    have key : repsB v (insR l r) = true ↔ vrB v r = true ∧ ∀ x ∈ l, x.mem ≠ r.mem := by
      rw [reps_iff hv, ins_pair hl.2]
      constructor
      · rintro ⟨h1, h2⟩
        refine ⟨h1 r ?_, h2⟩
        simp [insR]
      · rintro ⟨h1, h2⟩
        refine ⟨fun x hx => ?_, h2⟩
        rcases insR_mem hx with rfl | hx
        · exact h1
        · exact hl.1 x hx
    have e : (!vrB v r || decide (0 ≤ ofB l r.mem)) = !repsB v (insR l r) := by
      cases hk : repsB v (insR l r)
      · cases hb : (!vrB v r || decide (0 ≤ ofB l r.mem))
        · simp only [Bool.or_eq_false_iff, Bool.not_eq_false'] at hb
          have := key.2 ⟨hb.1, of_neg hb.2⟩
          rw [hk] at this
          cases this
        · rfl
      · have hk := key.1 hk
        rw [hk.1]
        cases hb : decide (0 ≤ ofB l r.mem)
        · rfl
        · obtain ⟨x, hx, he⟩ := of_pos hb
          exact absurd he (hk.2 x hx)
    rw [e]
end Go.Proofs.Ytmfgjjnmfahcjaa
