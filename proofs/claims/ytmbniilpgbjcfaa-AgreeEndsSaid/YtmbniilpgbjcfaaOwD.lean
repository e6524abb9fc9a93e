/- The laws of this seat, part OwD: contracts of the functions, plain laws. No conditions. -/
import Derived.Test.YtmbniilpgbjcfaaOwC
set_option linter.unusedSimpArgs false
set_option linter.unusedVariables false
set_option maxRecDepth 100000
namespace Go.Proofs.Ytmbniilpgbjcfaa
open Go.Lift
def cutE (c : List Int) : List DV := [.lst 1 (c.map intE) false]
theorem fitsC {n : Nat} (h : n ≤ 2000000) : fitsIn tt 22 n := by
  have e : (tinfo tt 22).bytes = 24 := by kernel_rfl
  refine ⟨?_, ?_⟩
  · rw [e]; omega
  · simp only [maxLen]; omega
def oneCuts (v : View) : Nat → List (List Int)
  | 0 => []
  | i + 1 => bif decide ((oneCuts v i).length < 2) && decide ((nextR v [v.mem.getD i 0]).2 = 0) then oneCuts v i ++ [[v.mem.getD i 0]] else oneCuts v i
theorem one_len (v : View) (i : Nat) : (oneCuts v i).length ≤ 2 := by
  induction i with
  | zero => simp [oneCuts]
  | succ i ih =>
    simp only [oneCuts]
    cases h : decide ((oneCuts v i).length < 2) && decide ((nextR v [v.mem.getD i 0]).2 = 0)
    · exact ih
    · simp only [Bool.and_eq_true, decide_eq_true_eq] at h
      simp; omega
def AppAll (v : View) (L : List (List Int)) : Prop := ∀ c ∈ L, (nextR v c).2 = 0
theorem one_app (v : View) (i : Nat) : AppAll v (oneCuts v i) := by
  induction i with
  | zero => intro c hc; cases hc
  | succ i ih =>
    simp only [oneCuts]
    cases h : decide ((oneCuts v i).length < 2) && decide ((nextR v [v.mem.getD i 0]).2 = 0)
    · exact ih
    · simp only [Bool.and_eq_true, decide_eq_true_eq] at h
      intro c hc
      simp only [cond_true, List.mem_append, List.mem_singleton] at hc
      rcases hc with hc | rfl
      · exact ih c hc
      · exact h.2
theorem one_stop {v : View} {i : Nat} (h : 2 ≤ (oneCuts v i).length) : ∀ d, oneCuts v (i + d) = oneCuts v i
  | 0 => rfl
  | d + 1 => by
    have e : oneCuts v (i + (d + 1)) = bif decide ((oneCuts v (i + d)).length < 2) && decide ((nextR v [v.mem.getD (i + d) 0]).2 = 0) then oneCuts v (i + d) ++ [[v.mem.getD (i + d) 0]] else oneCuts v (i + d) := rfl
    rw [e, one_stop h d]
    have : decide ((oneCuts v i).length < 2) = false := decide_eq_false (by omega)
    rw [this]
    rfl
def freshQ (v : View) (k : Nat) : Bool := !inB v.mem (k : Int) && decide ((nextR v [(k : Int)]).2 = 0)
def freshAt (v : View) : Option Nat := ((List.range 1000).map (· + 1)).find? (freshQ v)
def cutsR (v : View) : List (List Int) := match freshAt v with
  | some k => oneCuts v v.mem.length ++ [[(k : Int)]]
  | none => oneCuts v v.mem.length
theorem c_ref3_Next_bad (v : View) (hv : v.mem.length ≤ maxLen) (hb : viewB v = false) (cut : List Int) : Ret Try.prog 83 [.agg (viewE v), .lst 1 (cut.map intE) false] (.tup [.agg (viewE ⟨0, []⟩), .v (.int .i64 1)]) := by
  have e := c_ref3_Valid v hv
  rw [hb] at e
  refine ret_of_body (fn := Try.f83) (c := Try.f83.body.getD .skip) hm hT (by kernel_rfl) Try.func83 (by kernel_rfl) (by kernel_rfl) (by kernel_rfl) (by kernel_rfl) ?_
  repeat' ((conv => whnf); first | refine And.intro (fun h => h) ?_ | refine dcond_t (by assumption) ?_ | refine dcond_f (by assumption) ?_ | (refine dcond_intro ?_ ?_ <;> intro h) | exact .refl | refine And.intro (by kernel_rfl) ?_ | refine And.intro ⟨fun h => h, fun h => h⟩ ?_ | refine .inl ⟨_, _, DleAll_refl _, e, ?_⟩ | refine ⟨_, _, DleAll_refl _, fun _ => e, ?_⟩ | refine ⟨_, _, DleAll_refl _, e, ?_⟩ | refine ⟨_, _, DleAll_refl _, fun h => Bool.noConfusion h, ?_⟩ | refine ⟨_, .v (.bool false), DleAll_refl _, fun h => Bool.noConfusion h, ?_⟩ | refine Exists.intro false ?_ | (refine And.intro ?_ ?_; focus (simp; done)) | fail)
  all_goals (conv => whnf)
  exact dle_tupA ⟨dle_aggA ⟨.refl, .nl, trivial⟩, .refl, trivial⟩
theorem c_ref3_Applicable_any (v : View) (hv : v.mem.length ≤ maxLen) (cut : List Int) (hc : cut.length ≤ 500000) : Ret Try.prog 57 [.agg (viewE v), .lst 1 (cut.map intE) false] (.v (.bool (decide ((nextR v cut).2 = 0)))) := by
  cases hb : viewB v
  · have e : decide ((nextR v cut).2 = 0) = false := by simp [nextR, hb]
    rw [e]
    refine ret_of_body (fn := Try.f57) (c := Try.f57.body.getD .skip) hm hT (by kernel_rfl) Try.func57 (by kernel_rfl) (by kernel_rfl) (by kernel_rfl) (by kernel_rfl) ?_
    repeat' ((conv => whnf); first | refine And.intro (fun h => h) ?_ | refine dcond_t (by assumption) ?_ | refine dcond_f (by assumption) ?_ | (refine dcond_intro ?_ ?_ <;> intro h) | exact .refl | refine And.intro (by kernel_rfl) ?_ | refine And.intro ⟨fun h => h, fun h => h⟩ ?_ | refine .inl ⟨_, _, DleAll_refl _, c_ref3_Next_bad _ hv hb _, ?_⟩ | refine ⟨_, _, DleAll_refl _, fun _ => c_ref3_Next_bad _ hv hb _, ?_⟩ | refine ⟨_, _, DleAll_refl _, c_ref3_Next_bad _ hv hb _, ?_⟩ | refine Exists.intro false ?_ | (refine And.intro ?_ ?_; focus (simp; done)) | fail)
  · refine c_ref3_Applicable v ?_ cut hc
    have hid : idsB v.mem 16 = true := by
      simp only [viewB, Bool.and_eq_true] at hb
      exact hb.2
    rw [ids_eq] at hid
    simp only [Bool.and_eq_true, decide_eq_true_eq] at hid
    omega
set_option maxRecDepth 100000 in
theorem c_law8_Cuts (v : View) (hv : v.mem.length ≤ maxLen) : Ret Try.prog 20 [.agg (viewE v)] (.lst 1 ((cutsR v).map cutE) false) := by
  have h1 : v.mem.length ≤ 9223372036854775807 := hv
  refine ret_of_body (fn := Try.f20) (c := Try.f20.body.getD .skip) hm hT (by kernel_rfl) Try.func20 (by kernel_rfl) (by kernel_rfl) (by kernel_rfl) (by kernel_rfl) ?_
  repeat' ((conv => whnf); first | refine And.intro (fun h => h) ?_ | refine dcond_t (by assumption) ?_ | refine dcond_f (by assumption) ?_ | (refine dcond_intro ?_ ?_ <;> intro h) | exact .refl | refine And.intro (by kernel_rfl) ?_ | refine And.intro ⟨fun h => h, fun h => h⟩ ?_ | refine Exists.intro false ?_ | (refine And.intro ?_ ?_; focus (simp; done)) | fail)
  refine ⟨Nat, fun i => ⟨[(1, .lp 0 0), (3, .own 1), (4, i64 i)], [.cells 24 (viewE v), .row 22 1 ((oneCuts v i).map cutE)]⟩, fun i => i ≤ v.mem.length, fun i => v.mem.length - i, [.slot 3 22 1], ⟨0, Nat.zero_le _, ?_⟩, ?_⟩
  · conv => whnf
    exact ⟨by repeat' ((conv => whnf); first | exact trivial | refine And.intro (by (conv => arg 1; whnf); first | (with_reducible exact .refl) | exact dle_int (wrap_succ (by omega)) | exact .refl) ?_), by repeat' ((conv => whnf); first | exact trivial | refine And.intro ?_ ?_ | exact .refl), rfl⟩
  · intro i hi
    have hol := one_len v i
    repeat' ((conv => whnf); first | refine And.intro (fun h => h) ?_ | refine dcond_t (by assumption) ?_ | refine dcond_f (by assumption) ?_ | (refine dcond_intro ?_ ?_ <;> intro h) | exact .refl | refine And.intro (by kernel_rfl) ?_ | refine And.intro ⟨fun h => h, fun h => h⟩ ?_ | refine Exists.intro false ?_ | (refine And.intro ?_ ?_; focus (simp; done)) | fail)
    · have hlt : i < v.mem.length := by
        simp at h
        omega
      have h2 : (oneCuts v i).length < 2 := by
        simp at h
        omega
      clear h
      have hg : v.mem.getD i 0 = v.mem[i] := by simp [hlt]
      have e44 := c_ref3_Applicable_any v hv [v.mem[i]] (by simp)
      have hsl : ((v.mem.map intE).take (i + 1)).drop i = [v.mem[i]].map intE := by
        rw [List.take_succ_eq_append_getElem (by simpa using hlt), List.drop_append_of_le_length (by simp; omega)]
        simp
      have hw : IntKind.i64.wrap ((i : Int) + 1) = ((i + 1 : Nat) : Int) := wrap_succ (by omega)
      have hlm : i + 1 ≤ (v.mem.map intE).length := by
        rw [List.length_map]
        exact hlt
      have hone : oneCuts v (i + 1) = bif decide ((oneCuts v i).length < 2) && decide ((nextR v [v.mem.getD i 0]).2 = 0) then oneCuts v i ++ [[v.mem.getD i 0]] else oneCuts v i := rfl
      rw [hg, decide_eq_true h2, Bool.true_and] at hone
      rw [← hsl] at e44
      generalize decide ((nextR v [v.mem[i]]).2 = 0) = ap at e44 hone
      repeat' ((conv => whnf); first | refine And.intro (fun h => h) ?_ | refine dcond_t (by assumption) ?_ | refine dcond_f (by assumption) ?_ | (refine dcond_intro ?_ ?_ <;> intro h) | exact .refl | refine And.intro (by kernel_rfl) ?_ | refine And.intro ⟨fun h => h, fun h => h⟩ ?_ | refine ⟨i, i + 1, And.intro ⟨⟨_, rfl⟩, ⟨.i64, congrArg (fun z => DV.v (.int .i64 z)) hw⟩, by omega, hlm⟩ ?_⟩ | refine .inl ⟨_, _, DleAll_refl _, e44, ?_⟩ | refine ⟨_, _, DleAll_refl _, fun _ => e44, ?_⟩ | refine ⟨_, _, DleAll_refl _, e44, ?_⟩ | refine Exists.intro false ?_ | (refine And.intro ?_ ?_; focus (simp; done)) | fail)
      all_goals (conv => whnf)
      · refine And.intro (fitsC (by simp; omega)) ?_
        repeat' ((conv => whnf); first | refine And.intro (fun h => h) ?_ | refine dcond_t (by assumption) ?_ | refine dcond_f (by assumption) ?_ | (refine dcond_intro ?_ ?_ <;> intro h) | exact .refl | refine And.intro (by kernel_rfl) ?_ | refine And.intro ⟨fun h => h, fun h => h⟩ ?_ | refine Exists.intro false ?_ | (refine And.intro ?_ ?_; focus (simp; done)) | fail)
        all_goals (conv => whnf)
        refine ⟨i + 1, hlt, by simp only []; omega, ?_⟩
        refine ⟨⟨.refl, .refl, dle_int hw, trivial⟩, ⟨.refl, ole_row ?_, trivial⟩, rfl⟩
        rw [hone, h, hsl]
        simp [cutE, dcells]
      · refine ⟨i + 1, hlt, by simp only []; omega, ?_⟩
        refine ⟨⟨.refl, .refl, dle_int hw, trivial⟩, ⟨.refl, ole_row ?_, trivial⟩, rfl⟩
        rw [hone, h]
        rfl
    · have he : oneCuts v i = oneCuts v v.mem.length := by
        simp at h
        rcases Nat.lt_or_ge i v.mem.length with h3 | h3
        · have h4 : 2 ≤ (oneCuts v i).length := by
            have := h (by omega)
            omega
          have := one_stop h4 (v.mem.length - i)
          rw [← this]
          congr 1
          omega
        · have : i = v.mem.length := by omega
          rw [this]
      clear h
      rw [he] at hol ⊢
      generalize hO : oneCuts v v.mem.length = O at hol he ⊢
      have hcr : cutsR v = match freshAt v with
        | some k => O ++ [[(k : Int)]]
        | none => O := by
        subst hO
        unfold cutsR
        generalize freshAt v = F
        cases F <;> rfl
      conv => whnf
      refine ⟨Nat, fun k => ⟨[(1, .lp 0 0), (3, .own 1), (5, i64 (k + 1 : Nat))], [.cells 24 (viewE v), .row 22 1 (O.map cutE)]⟩, fun k => k ≤ 1000 ∧ ∀ j, j < k → freshQ v (j + 1) = false, fun k => 1000 - k, [], ⟨0, ⟨by omega, by omega⟩, ?_⟩, ?_⟩
      · exact ⟨⟨.refl, .refl, dle_int rfl, trivial⟩, ⟨.refl, .refl, trivial⟩, rfl⟩
      · intro k ⟨hk, hall⟩
        have hkn : ((k + 1 : Nat) : Int) = (k : Int) + 1 := by omega
        repeat' ((conv => whnf); first | refine And.intro (fun h => h) ?_ | refine dcond_t (by assumption) ?_ | refine dcond_f (by assumption) ?_ | (refine dcond_intro ?_ ?_ <;> intro h) | exact .refl | refine And.intro (by kernel_rfl) ?_ | refine And.intro ⟨fun h => h, fun h => h⟩ ?_ | refine Exists.intro false ?_ | (refine And.intro ?_ ?_; focus (simp; done)) | fail)
        · have hlt : k < 1000 := by
            simp at h
            omega
          clear h
          have e45 := c_ref3_Contains v.mem hv ((k + 1 : Nat) : Int)
          have e44 := c_ref3_Applicable_any v hv [((k + 1 : Nat) : Int)] (by simp)
          have hfq : freshQ v (k + 1) = (!inB v.mem ((k + 1 : Nat) : Int) && decide ((nextR v [((k + 1 : Nat) : Int)]).2 = 0)) := rfl
          generalize inB v.mem ((k + 1 : Nat) : Int) = b1 at e45 hfq
          generalize decide ((nextR v [((k + 1 : Nat) : Int)]).2 = 0) = b2 at e44 hfq
          have next : freshQ v (k + 1) = false → k + 1 ≤ 1000 ∧ ∀ j, j < k + 1 → freshQ v (j + 1) = false := fun hf => ⟨hlt, fun j hj => by
            rcases Nat.lt_succ_iff_lt_or_eq.1 hj with hj | rfl
            · exact hall j hj
            · exact hf⟩
          have hw : IntKind.i64.wrap (((k + 1 : Nat) : Int) + 1) = ((k + 1 + 1 : Nat) : Int) := wrap_succ (by omega)
          repeat' ((conv => whnf); first | refine And.intro (fun h => h) ?_ | refine dcond_t (by assumption) ?_ | refine dcond_f (by assumption) ?_ | (refine dcond_intro ?_ ?_ <;> intro h) | exact .refl | refine And.intro (by kernel_rfl) ?_ | refine And.intro ⟨fun h => h, fun h => h⟩ ?_ | refine .inl ⟨_, _, DleAll_refl _, e45, ?_⟩ | refine ⟨_, _, DleAll_refl _, fun _ => e45, ?_⟩ | refine ⟨_, _, DleAll_refl _, e45, ?_⟩ | refine .inl ⟨_, _, DleAll_refl _, e44, ?_⟩ | refine ⟨_, _, DleAll_refl _, fun _ => e44, ?_⟩ | refine ⟨_, _, DleAll_refl _, e44, ?_⟩ | refine And.intro (fun hb => ?_) (fun hb => ?_) | refine ⟨[.agg (viewE v), .lst 1 (List.map intE [((k + 1 : Nat) : Int)]) false], _, ⟨.refl, .refl, trivial⟩, fun _ => e44, ?_⟩ | refine ⟨_, .v (.bool b2), DleAll_refl _, fun hc => Bool.noConfusion (hb.symm.trans hc), ?_⟩ | refine And.intro ⟨fun h => h, fun hc => Bool.noConfusion (hb.symm.trans hc)⟩ ?_ | refine And.intro (fitsC (by simp <;> omega)) ?_ | refine Exists.intro false ?_ | (refine And.intro ?_ ?_; focus (simp; done)) | fail)
          all_goals (conv => whnf)
          · have hf : freshAt v = some (k + 1) := by
              refine List.find?_eq_some_iff_getElem.2 ⟨hfq.trans h, k, by simp; omega, by simp, fun j hj => ?_⟩
              simp [hall j hj]
            rw [hf] at hcr
            refine dle_lst ?_
            rw [hcr]
            simp [cutE, dcells, intE]
            kernel_rfl
          · exact ⟨k + 1, next (hfq.trans h), by simp only []; omega, ⟨⟨.refl, .refl, dle_int hw, trivial⟩, ⟨.refl, .refl, trivial⟩, rfl⟩⟩
          · rw [hb] at h
            cases h
          · exact ⟨k + 1, next (hfq.trans h), by simp only []; omega, ⟨⟨.refl, .refl, dle_int hw, trivial⟩, ⟨.refl, .refl, trivial⟩, rfl⟩⟩
        · have hge : ¬ k < 1000 := by
            simp at h
            omega
          clear h
          have hf : freshAt v = none := List.find?_eq_none.2 fun x hx => by
            obtain ⟨y, hy, rfl⟩ := List.mem_map.1 hx
            have := hall y (by have := List.mem_range.1 hy; omega)
            simp [this]
          rw [hf] at hcr
          repeat' ((conv => whnf); first | refine And.intro (fun h => h) ?_ | refine dcond_t (by assumption) ?_ | refine dcond_f (by assumption) ?_ | (refine dcond_intro ?_ ?_ <;> intro h) | exact .refl | refine And.intro (by kernel_rfl) ?_ | refine And.intro ⟨fun h => h, fun h => h⟩ ?_ | refine Exists.intro false ?_ | (refine And.intro ?_ ?_; focus (simp; done)) | fail)
          all_goals (conv => whnf)
          refine dle_lst ?_
          rw [hcr]
theorem cuts_ok (v : View) : (cutsR v).length ≤ 3 ∧ ∀ c ∈ cutsR v, c.length = 1 ∧ (nextR v c).2 = 0 := by
  have h1 : ∀ i, ∀ c ∈ oneCuts v i, c.length = 1 := by
    intro i
    induction i with
    | zero => intro c hc; cases hc
    | succ i ih =>
      simp only [oneCuts]
      cases decide ((oneCuts v i).length < 2) && decide ((nextR v [v.mem.getD i 0]).2 = 0)
      · exact ih
      · intro c hc
        simp only [cond_true, List.mem_append, List.mem_singleton] at hc
        rcases hc with hc | rfl
        · exact ih c hc
        · rfl
  have h2 := one_app v v.mem.length
  have h3 := one_len v v.mem.length
  unfold cutsR
  cases hf : freshAt v with
  | none => exact ⟨by simp only []; omega, fun c hc => ⟨h1 _ c hc, h2 c hc⟩⟩
  | some k =>
    have hq : freshQ v k = true := List.find?_some hf
    simp only [freshQ, Bool.and_eq_true, decide_eq_true_eq] at hq
    refine ⟨by simp; omega, fun c hc => ?_⟩
    simp only [List.mem_append, List.mem_singleton] at hc
    rcases hc with hc | rfl
    · exact ⟨h1 _ c hc, h2 c hc⟩
    · exact ⟨rfl, hq.2⟩
end Go.Proofs.Ytmbniilpgbjcfaa

set_option maxRecDepth 100000
namespace Go.Proofs.Ytmbniilpgbjcfaa
open Go.Lift
theorem c_law10_same (a b : List Int) (ha : a.length ≤ maxLen) : Ret Try.prog 24 [.lst 1 (a.map intE) false, .lst 1 (b.map intE) false] (.v (.bool (sameI a b))) := by
  have hl' : a.length ≤ 9223372036854775807 := ha
  refine ret_of_body (fn := Try.f24) (c := Try.f24.body.getD .skip) hm hT (by kernel_rfl) Try.func24 (by kernel_rfl) (by kernel_rfl) (by kernel_rfl) (by kernel_rfl) ?_
  repeat' ((conv => whnf); first | refine And.intro (fun h => h) ?_ | refine dcond_t (by assumption) ?_ | refine dcond_f (by assumption) ?_ | (refine dcond_intro ?_ ?_ <;> intro h) | exact .refl | refine And.intro (by kernel_rfl) ?_ | refine And.intro ⟨fun h => h, fun h => h⟩ ?_ | refine Exists.intro false ?_ | (refine And.intro ?_ ?_; focus (simp; done)) | fail)
  · refine dle_bool ?_
    simp only [List.length_map] at h
    have h : decide ((a.length : Int) = (b.length : Int)) = false := by simpa using h
    simp only [sameI, h, Bool.false_and]
  · have h0 : a.length = b.length := by
      simp at h
      omega
    clear h
    conv => whnf
    refine ⟨Nat, fun i => ⟨[(0, .lst 1 (a.map intE) false), (1, .lst 1 (b.map intE) false), (5, i64 i)], []⟩, fun i => i ≤ a.length ∧ ∀ j, j < i → decide (a.getD j 0 = b.getD j 0) = true, fun i => a.length - i, [], ⟨0, ⟨Nat.zero_le _, by omega⟩, ?_⟩, ?_⟩
    · exact ⟨by repeat' ((conv => whnf); first | exact trivial | refine And.intro (by (conv => arg 1; whnf); first | (with_reducible exact .refl) | exact dle_int (wrap_succ (by omega)) | exact .refl) ?_), by repeat' ((conv => whnf); first | exact trivial | refine And.intro ?_ ?_ | exact .refl), rfl⟩
    · intro i ⟨hi, hall⟩
      repeat' ((conv => whnf); first | refine And.intro (fun h => h) ?_ | refine dcond_t (by assumption) ?_ | refine dcond_f (by assumption) ?_ | (refine dcond_intro ?_ ?_ <;> intro h) | exact .refl | refine And.intro (by kernel_rfl) ?_ | refine And.intro ⟨fun h => h, fun h => h⟩ ?_ | refine Exists.intro false ?_ | (refine And.intro ?_ ?_; focus (simp; done)) | fail)
      · have hlt : i < a.length := by simpa using h
        have hlt2 : i < b.length := by omega
        clear h
        have hg : a.getD i 0 = a[i] := by simp [hlt]
        have hg2 : b.getD i 0 = b[i] := by simp [hlt2]
        repeat' ((conv => whnf); first | refine And.intro (fun h => h) ?_ | refine dcond_t (by assumption) ?_ | refine dcond_f (by assumption) ?_ | (refine dcond_intro ?_ ?_ <;> intro h) | exact .refl | refine And.intro (by kernel_rfl) ?_ | refine And.intro ⟨fun h => h, fun h => h⟩ ?_ | refine ⟨_, _, And.intro ⟨rfl, get_map hlt⟩ ?_⟩ | refine ⟨_, _, And.intro ⟨rfl, get_map hlt2⟩ ?_⟩ | refine Exists.intro false ?_ | (refine And.intro ?_ ?_; focus (simp; done)) | fail)
        · refine dle_bool ?_
          rw [sameI, allB_false hlt (i := i), Bool.and_false]
          rw [hg, hg2]
          simpa using h
        · conv => whnf
          refine ⟨i + 1, ⟨hlt, fun j hj => ?_⟩, by simp only []; omega, ?_⟩
          · rcases Nat.lt_succ_iff_lt_or_eq.1 hj with hj | rfl
            · exact hall j hj
            · rw [hg, hg2]
              simpa using h
          · exact ⟨by repeat' ((conv => whnf); first | exact trivial | refine And.intro (by (conv => arg 1; whnf); first | (with_reducible exact .refl) | exact dle_int (wrap_succ (by omega)) | exact .refl) ?_), by repeat' ((conv => whnf); first | exact trivial | refine And.intro ?_ ?_ | exact .refl), rfl⟩
      · have hge : ¬ i < a.length := by simpa using h
        conv => whnf
        refine dle_bool ?_
        rw [sameI, allB_true.2 (fun j hj => hall j (by omega)), h0]
        simp
def pkt0 : Pkt := ⟨0, ⟨0, 0, 0, 0, 0, []⟩⟩
def hitB (v : View) (p : Pkt) (k : Nat) : Bool := decide (p.to = v.mem.getD k 0) || (decide (p.to = 0) && !decide (v.mem.getD k 0 = p.m.src))
def sprI (v : View) (p : Pkt) : Nat → List Pkt
  | 0 => []
  | k + 1 => bif hitB v p k then sprI v p k ++ [⟨v.mem.getD k 0, p.m⟩] else sprI v p k
def sprA (v : View) (ps : List Pkt) : Nat → List Pkt
  | 0 => []
  | i + 1 => sprA v ps i ++ sprI v (ps.getD i pkt0) v.mem.length
def spreadR (v : View) (ps : List Pkt) : List Pkt := sprA v ps ps.length
theorem sprI_len (v : View) (p : Pkt) : ∀ k, (sprI v p k).length ≤ k
  | 0 => Nat.le_refl _
  | k + 1 => by
    have := sprI_len v p k
    unfold sprI
    cases hitB v p k <;> simp <;> omega
theorem sprA_len (v : View) (ps : List Pkt) : ∀ i, (sprA v ps i).length ≤ i * v.mem.length
  | 0 => by simp [sprA]
  | i + 1 => by
    have h1 := sprA_len v ps i
    have h2 := sprI_len v (ps.getD i pkt0) v.mem.length
    unfold sprA
    rw [List.length_append, Nat.succ_mul]
    omega
theorem sprI_mem {v : View} {p f : Pkt} : ∀ {k}, k ≤ v.mem.length → f ∈ sprI v p k → f.m = p.m ∧ f.to ∈ v.mem ∧ (p.to = f.to ∨ p.to = 0 ∧ f.to ≠ p.m.src)
  | 0, _, h => by cases h
  | k + 1, hk, h => by
    unfold sprI at h
    cases hb : hitB v p k
    · rw [hb] at h
      exact sprI_mem (by omega) h
    · rw [hb, cond_true] at h
      rcases List.mem_append.1 h with h | h
      · exact sprI_mem (by omega) h
      · rw [List.mem_singleton.1 h]
        have hg : v.mem.getD k 0 = v.mem[k] := by simp [show k < v.mem.length by omega]
        refine ⟨rfl, ?_, ?_⟩
        · show v.mem.getD k 0 ∈ v.mem
          rw [hg]
          exact List.getElem_mem _
        · unfold hitB at hb
          simp only [Bool.or_eq_true, Bool.and_eq_true, decide_eq_true_eq, Bool.not_eq_true', decide_eq_false_iff_not] at hb
          exact hb
theorem spr_mem {v : View} {ps : List Pkt} {f : Pkt} (h : f ∈ spreadR v ps) : ∃ p ∈ ps, f.m = p.m ∧ f.to ∈ v.mem ∧ (p.to = f.to ∨ p.to = 0 ∧ f.to ≠ p.m.src) := by
  have key : ∀ i, i ≤ ps.length → f ∈ sprA v ps i → ∃ p ∈ ps, f.m = p.m ∧ f.to ∈ v.mem ∧ (p.to = f.to ∨ p.to = 0 ∧ f.to ≠ p.m.src) := by
    intro i
    induction i with
    | zero => intro _ h; cases h
    | succ i ih =>
      intro hi h
      unfold sprA at h
      rcases List.mem_append.1 h with h | h
      · exact ih (by omega) h
      · have hg : ps.getD i pkt0 = ps[i] := by simp [show i < ps.length by omega]
        rw [hg] at h
        exact ⟨ps[i], List.getElem_mem _, sprI_mem (Nat.le_refl _) h⟩
  exact key _ (Nat.le_refl _) h
theorem fitsFl {n : Nat} (h : n ≤ 2000000) : fitsIn tt 62 n := by
  have e : (tinfo tt 62).bytes = 72 := by kernel_rfl
  refine ⟨?_, ?_⟩
  · rw [e]; omega
  · simp only [maxLen]; omega
set_option maxHeartbeats 4000000 in
theorem m_spread (v : View) (hv : v.mem.length ≤ 16) (l ps : List Pkt) (hl : l.length ≤ 1000000) (hp : ps.length ≤ 1000) : RetM Try.prog 23 [.row 62 7 (l.map pktE)] [.agg (viewE v), .own 0, .lst 7 (ps.map pktE) false] [false] [.row 62 7 ((l ++ spreadR v ps).map pktE)] (.own 0) := by
  refine retM_of_body (fn := Try.f23) (c := Try.f23.body.getD .skip) hm hT (by kernel_rfl) Try.func23 (by kernel_rfl) (by kernel_rfl) (by kernel_rfl) (by kernel_rfl) (by kernel_rfl) ?_
  repeat' ((conv => whnf); first | refine And.intro (fun h => h) ?_ | refine dcond_t (by assumption) ?_ | refine dcond_f (by assumption) ?_ | (refine dcond_intro ?_ ?_ <;> intro h) | exact .refl | refine And.intro (by kernel_rfl) ?_ | refine And.intro ⟨fun h => h, fun h => h⟩ ?_ | refine Exists.intro false ?_ | (refine And.intro ?_ ?_; focus (simp; done)) | fail)
  all_goals (conv => whnf)
  refine ⟨Nat, fun i => ⟨[(1, .own 0), (2, .lst 7 (ps.map pktE) false), (3, .lp 2 0), (7, i64 i)], [.row 62 7 ((l ++ sprA v ps i).map pktE), .gh [.junk], .cells 24 (viewE v)]⟩, fun i => i ≤ ps.length, fun i => ps.length - i, [], ⟨0, Nat.zero_le _, ?_⟩, ?_⟩
  · conv => whnf
    refine ⟨⟨.refl, .refl, .refl, .refl, trivial⟩, ⟨ole_row ?_, gh_junk, .refl, trivial⟩, by rfl⟩
    simp [sprA]
  · intro i hi
    repeat' ((conv => whnf); first | refine And.intro (fun h => h) ?_ | refine dcond_t (by assumption) ?_ | refine dcond_f (by assumption) ?_ | (refine dcond_intro ?_ ?_ <;> intro h) | exact .refl | refine And.intro (by kernel_rfl) ?_ | refine And.intro ⟨fun h => h, fun h => h⟩ ?_ | refine Exists.intro false ?_ | (refine And.intro ?_ ?_; focus (simp; done)) | fail)
    all_goals (conv => whnf)
    · have hlt : i < ps.length := by simpa using h
      clear h
      have hg : (ps.map pktE)[i]? = some (pktE ps[i]) := get_map hlt
      have hA : sprA v ps (i + 1) = sprA v ps i ++ sprI v ps[i] v.mem.length := by
        have hgd : ps.getD i pkt0 = ps[i] := by simp [hlt]
        rw [← hgd]
        rfl
      obtain ⟨p, hpe⟩ : ∃ p, p = ps[i] := ⟨_, rfl⟩
      rw [← hpe] at hg hA
      have hAl := sprA_len v ps i
      have hAm : i * v.mem.length ≤ 1000 * 16 := Nat.mul_le_mul (by omega) hv
      generalize sprA v ps i = Q at *
      refine ⟨Nat, fun k => ⟨[(1, .own 0), (2, .lst 7 (ps.map pktE) false), (3, .lp 2 0), (7, i64 i), (8, i64 k)], [.row 62 7 ((l ++ Q ++ sprI v p k).map pktE), .gh [.junk], .cells 24 (viewE v)]⟩, fun k => k ≤ v.mem.length, fun k => v.mem.length - k, [], ⟨0, Nat.zero_le _, ?_⟩, ?_⟩
      · conv => whnf
        refine ⟨⟨.refl, .refl, .refl, .refl, .refl, trivial⟩, ⟨ole_row ?_, .refl, .refl, trivial⟩, by rfl⟩
        simp [sprI]
      · intro k hk
        have hIl := sprI_len v p k
        repeat' ((conv => whnf); first | refine And.intro (fun h => h) ?_ | refine dcond_t (by assumption) ?_ | refine dcond_f (by assumption) ?_ | (refine dcond_intro ?_ ?_ <;> intro h) | exact .refl | refine And.intro (by kernel_rfl) ?_ | refine And.intro ⟨fun h => h, fun h => h⟩ ?_ | refine Exists.intro false ?_ | (refine And.intro ?_ ?_; focus (simp; done)) | fail)
        all_goals (conv => whnf)
        · have hkl : k < v.mem.length := by simpa using h
          clear h
          have hgk : (v.mem.map intE)[k]? = some (intE v.mem[k]) := get_map hkl
          have hI : sprI v p (k + 1) = bif hitB v p k then sprI v p k ++ [⟨v.mem.getD k 0, p.m⟩] else sprI v p k := rfl
          have hgd : v.mem.getD k 0 = v.mem[k] := by simp [hkl]
          unfold hitB at hI
          rw [hgd] at hI
          obtain ⟨y, hy⟩ : ∃ y, y = v.mem[k] := ⟨_, rfl⟩
          rw [← hy] at hgk hI
          generalize sprI v p k = J at *
          repeat' ((conv => whnf); first | refine And.intro (fun h => h) ?_ | refine dcond_t (by assumption) ?_ | refine dcond_f (by assumption) ?_ | (refine dcond_intro ?_ ?_ <;> intro h) | exact .refl | refine And.intro (by kernel_rfl) ?_ | refine And.intro ⟨fun h => h, fun h => h⟩ ?_ | refine ⟨i, pktE p, And.intro ⟨rfl, hg⟩ ?_⟩ | refine ⟨k, intE y, And.intro ⟨rfl, hgk⟩ ?_⟩ | refine ⟨i, pktE p, And.intro ⟨⟨fun h => h, fun h => h⟩, fun hx => ⟨rfl, hg⟩⟩ ?_⟩ | refine ⟨k, intE y, And.intro ⟨⟨fun h => h, fun h => h⟩, fun hx => ⟨rfl, hgk⟩⟩ ?_⟩ | refine And.intro (fitsFl (by simp <;> omega)) ?_ | refine Exists.intro false ?_ | (refine And.intro ?_ ?_; focus (simp; done)) | fail)
          all_goals (conv => whnf)
          · rw [h, cond_true] at hI
            refine ⟨k + 1, hkl, by simp only []; omega, ?_⟩
            conv => whnf
            refine ⟨⟨.refl, .refl, .refl, .refl, dle_int (wrap_succ (by omega)), trivial⟩, ⟨ole_row ?_, .refl, .refl, trivial⟩, by rfl⟩
            rw [hI, ← List.append_assoc, List.map_append (l₁ := l ++ Q ++ J)]
            rfl
          · rw [h, cond_false] at hI
            refine ⟨k + 1, hkl, by simp only []; omega, ?_⟩
            conv => whnf
            refine ⟨⟨.refl, .refl, .refl, .refl, dle_int (wrap_succ (by omega)), trivial⟩, ⟨ole_row ?_, .refl, .refl, trivial⟩, by rfl⟩
            rw [hI]
        · have hkn : k = v.mem.length := by
            simp at h
            omega
          clear h
          subst hkn
          refine ⟨i + 1, hlt, by simp only []; omega, ?_⟩
          conv => whnf
          refine ⟨⟨.refl, .refl, .refl, dle_int (wrap_succ (by omega)), trivial⟩, ⟨ole_row ?_, .refl, .refl, trivial⟩, by rfl⟩
          rw [hA, List.append_assoc]
    · have hin : i = ps.length := by
        simp at h
        omega
      clear h
      subst hin
      exact ⟨.refl, ⟨.refl, gh_junk, trivial⟩, by rfl⟩
end Go.Proofs.Ytmbniilpgbjcfaa

set_option maxRecDepth 100000
namespace Go.Proofs.Ytmbniilpgbjcfaa
open Go.Lift
theorem end_ps (s : Agr) (ps : List Pkt) : (endA s ps).2.length ≤ ps.length + 1 := by
  unfold endA
  cases decide ((s.dec.length : Int) = 0) && decide (0 < ((decR s).length : Int)) <;> simp
theorem prop_ps (s : Agr) (cut : List Int) : (propA s cut).2.1.length ≤ 200 := by
  unfold propA
  have h1 := end_ps { s with prop := cut, wait := 0, acc := (voteR s.acc cut).1, box := (castR s.view s.box ⟨s.self, cut⟩).1 } [pktOf s 0 1 0 0 cut]
  have h2 := end_ps { s with prop := cut, wait := 0 } []
  simp only [List.length_cons, List.length_nil] at h1 h2
  cases !agrB s || !appB s.view cut
  · cases decide (0 < (s.prop.length : Int)) || decide (0 < (s.dec.length : Int))
    · cases (voteR s.acc cut).2
      · exact Nat.le_trans h2 (by decide)
      · exact Nat.le_trans h1 (by decide)
    · exact Nat.zero_le _
  · exact Nat.zero_le _
theorem act_ps (s : Agr) (m : Msg) : (actA s m).2.length ≤ 100 := by
  unfold actA
  split
  · exact Nat.zero_le _
  · split
    · exact prepA_ps s m
    · split
      · exact promA_ps s m
      · split
        · exact acctA_ps s m
        · split
          · exact Nat.zero_le _
          · simp
theorem rec_ps (s : Agr) (m : Msg) : (recA s m).2.1.length ≤ 200 := by
  unfold recA
  split
  · exact Nat.zero_le _
  · split
    · exact Nat.zero_le _
    · split
      · exact Nat.zero_le _
      · split
        · cases decide (m.kind = 6) <;> simp
        · have := end_ps (actA s m).1 (actA s m).2
          have := act_ps s m
          simp only []
          omega
theorem tick_ps (s : Agr) : (tickA s).2.length ≤ 200 := by
  unfold tickA
  split
  · exact Nat.zero_le _
  · split
    · simp
    · have := end_ps (stepA s) (rsdA (stepA s))
      have := rsd_ps (stepA s)
      omega
theorem vm_len {v : View} {m : Msg} (h : vmB v m = true) : m.cut.length ≤ 32 := by
  have hb := vm_body h
  rcases vm_kind h with hk | hk | hk | hk | hk | hk
  · exact good_len (good_iff.2 (.inr (hb.1 (.inl hk))))
  · have : m.cut = [] := by
      unfold vmB at h
      cases h1 : !viewB v || !inB v.mem m.src || !decide (m.view = v.num)
      · simp only [h1, hk, cond_false] at h
        simp only [Bool.and_eq_true, decide_eq_true_eq, decide_true, decide_false, Bool.or_self, cond_true, cond_false, show ¬ ((2 : Int) = 1) by decide, show ¬ ((2 : Int) = 6) by decide] at h
        exact len0.1 (decide_eq_true h.2)
      · rw [h1] at h
        cases h
    rw [this]
    exact Nat.zero_le _
  · rcases (hb.2.2.1 hk).2.2 with hl | hl
    · rw [hl.2]
      exact Nat.zero_le _
    · exact good_len (good_iff.2 (.inr hl.2))
  · exact good_len (good_iff.2 (.inr (hb.2.2.2.1 hk).2.2))
  · exact good_len (good_iff.2 (.inr (hb.2.2.2.2 hk).2))
  · exact good_len (good_iff.2 (.inr (hb.1 (.inr hk))))
theorem mem_lt {v : View} (hv : viewB v = true) : ∀ j (hj : j < v.mem.length), ∀ i (hij : i < j), (v.mem[i]'(by omega)) < v.mem[j] := by
  have hid : idsB v.mem 16 = true := by
    simp only [viewB, Bool.and_eq_true] at hv
    exact hv.2
  rw [ids_eq] at hid
  simp only [Bool.and_eq_true] at hid
  have hr := rise_iff.1 hid.2
  intro j
  induction j with
  | zero => intro _ i hi; omega
  | succ j ih =>
    intro hj i hi
    have h1 := (hr (j + 1) hj).2.2 (by omega)
    have h2 : v.mem.getD (j + 1 - 1) 0 = v.mem[j] := by simp [show j < v.mem.length by omega]
    rw [h2] at h1
    rcases Nat.lt_succ_iff_lt_or_eq.1 hi with hi | rfl
    · have := ih (by omega) i hi
      omega
    · exact h1
theorem mem_ne {v : View} (hv : viewB v = true) {i j : Nat} (hi : i < v.mem.length) (hj : j < v.mem.length) (hne : i ≠ j) : v.mem.getD i 0 ≠ v.mem.getD j 0 := by
  have e1 : v.mem.getD i 0 = v.mem[i] := by simp [hi]
  have e2 : v.mem.getD j 0 = v.mem[j] := by simp [hj]
  rw [e1, e2]
  rcases Nat.lt_or_gt_of_ne hne with h | h
  · have := mem_lt hv j hj i h
    omega
  · have := mem_lt hv i hi j h
    omega
theorem place_at {l : List Int} {x : Int} (h : x ∈ l) : ∃ a, a < l.length ∧ placeB l x = (a : Int) ∧ l.getD a 0 = x := by
  unfold placeB
  rcases hf : (List.range l.length).find? (fun i => decide (l[i]? = some x)) with _ | n
  · obtain ⟨i, hi, rfl⟩ := List.getElem_of_mem h
    have := List.find?_eq_none.1 hf i (List.mem_range.2 hi)
    simp [hi] at this
  · have hp := List.find?_some hf
    simp only [decide_eq_true_eq] at hp
    have hn : n < l.length := List.mem_range.1 (List.mem_of_find?_eq_some hf)
    refine ⟨n, hn, by simp only [findB, hf], ?_⟩
    simp only [List.getD_eq_getElem?_getD, hp, Option.getD_some]
theorem in_of_mem {l : List Int} {x : Int} (h : x ∈ l) : inB l x = true := by
  obtain ⟨a, _, e, _⟩ := place_at h
  unfold inB
  rw [e]
  exact decide_eq_true (by omega)
def nthA (S : List Agr) (i : Nat) : Agr := S.getD i agr0
theorem nth_set {S : List Agr} {a i : Nat} {x : Agr} (ha : a < S.length) : nthA (S.set a x) i = if i = a then x else nthA S i := by
  unfold nthA
  simp only [List.getD_eq_getElem?_getD, List.getElem?_set]
  by_cases h : i = a
  · subst h
    simp [ha]
  · rw [if_neg (fun e : a = i => h e.symm), if_neg h]
theorem nth_get {S : List Agr} {i : Nat} (h : i < S.length) : (S.map agrE)[i]? = some (agrE (nthA S i)) := by
  unfold nthA
  simp [h]
structure LM (v : View) (S : List Agr) (fly : List Pkt) (Pr : List (List Int)) (d : List Int) (g : Gh) (a : Nat) (ps : List Pkt) : Prop where
  len : S.length = v.mem.length
  inv : GInv v g
  st : ∀ i, i < v.mem.length → (nthA S i).self = v.mem.getD i 0 ∧ (nthA S i).view = v ∧ AW (nthA S i) ∧ few (nthA S i) ∧ GOk v g (nthA S i)
  fl : ∀ f ∈ fly, vmB v f.m = true ∧ f.to ∈ v.mem ∧ f.m.src ≠ f.to ∧ FOk v g f.m
  pr : ∀ c, g.P c → c ∈ Pr
  dd : d ≠ [] → Dec v g d
  d0 : d = [] → ∀ i, i < v.mem.length → i ≠ a → (nthA S i).dec = []
  pk : ∀ p ∈ ps, vmB v p.m = true ∧ p.to ≠ p.m.src ∧ FOk v g p.m
  pl : ps.length ≤ 200
def LW (v : View) (S : List Agr) (fly : List Pkt) (Pr : List (List Int)) (d : List Int) : Prop := ∃ g, LM v S fly Pr d g v.mem.length []
section
variable {v : View} {S : List Agr} {fly : List Pkt} {Pr : List (List Int)} {d : List Int} {g : Gh} {a : Nat} {ps : List Pkt}
end
def gh0 : Gh := ⟨fun _ _ => False, fun _ _ _ => False, fun _ _ => False, fun _ => False, fun _ => 0⟩
theorem ginv0 (v : View) : GInv v gh0 := ⟨fun _ _ _ h => h.elim, fun _ _ h => h.elim, fun _ _ _ h => h.elim, fun _ _ _ h => h.elim, fun _ _ h => h.elim⟩
def stA (v : View) (m : Int) : Agr := ⟨m, v, ⟨0, -1, []⟩, [], [], 0, 0, [], [], [], [], 0⟩
theorem new_in {v : View} (hv : viewB v = true) {m : Int} (hm : inB v.mem m = true) : newA v m = (stA v m, 0) := by
  unfold newA
  rw [hv, hm]
  rfl
theorem aw_new {v : View} (hv : viewB v = true) {m : Int} (hm : inB v.mem m = true) : AW (stA v m) :=
  ⟨hv, hm, Int.le_refl _, (by show (0 : Int) ≤ _; omega), (accB_iff _).2 ⟨.inl rfl, (by show (-1 : Int) ≤ 0; omega), .inl ⟨rfl, rfl⟩⟩, fun e => absurd rfl e, (fun e => absurd e (by show ¬ (0 : Int) < -1; omega)), good_iff.2 (.inl rfl), good_iff.2 (.inl rfl), good_iff.2 (.inl rfl), good_iff.2 (.inl rfl), (box_iff hv).2 ⟨by simp [stA], .nil⟩, (fun e => by
    have : (cutOf ([] : List Bal) m).2 = false := by
      cases h : (cutOf ([] : List Bal) m).2
      · rfl
      · obtain ⟨b, hb, _⟩ := cut_some h
        cases hb
    rw [show (cutOf (stA v m).box (stA v m).self).2 = (cutOf ([] : List Bal) m).2 from rfl, this] at e
    cases e), reps_nil hv, (fun r hr => by cases hr), reps_nil hv, (fun r hr => by cases hr), fun e => absurd rfl e, .inl ⟨rfl, rfl, rfl⟩⟩
theorem gok_new (v : View) (m : Int) : GOk v gh0 (stA v m) :=
  ⟨⟨rfl, fun _ _ h => h, (fun e => by
    have e : (-1 : Int) = 0 := e
    omega), (fun e => absurd e (by show ¬ (0 : Int) < -1; omega)), fun _ _ h => h.elim⟩,
   ⟨(fun b hb => by cases hb), (fun e => by
    have e : (0 : Int) = 1 := e
    omega), fun _ _ h => h, fun _ _ h => h.elim, (fun e => by
    have e : (0 : Int) = 2 := e
    omega), (fun x hx => by cases hx), fun e => absurd rfl e, fun e => absurd rfl e⟩⟩
def S0 (v : View) : List Agr := v.mem.map (stA v)
theorem nth_S0 {v : View} {i : Nat} (h : i < v.mem.length) : nthA (S0 v) i = stA v (v.mem.getD i 0) := by
  unfold nthA S0
  simp [h]
theorem lw_0 {v : View} (hv : viewB v = true) : LW v (S0 v) [] [] [] := by
  refine ⟨gh0, by simp [S0], ginv0 v, fun i hi => ?_, (fun f hf => by cases hf), fun c h => h.elim, fun e => absurd rfl e, fun _ i hi _ => ?_, (fun p hp => by cases hp), Nat.zero_le _⟩
  · rw [nth_S0 hi]
    have hg : v.mem.getD i 0 = v.mem[i] := by simp [hi]
    refine ⟨rfl, rfl, aw_new hv ?_, fun e => ?_, gok_new v _⟩
    · rw [hg]
      exact in_of_mem (List.getElem_mem hi)
    · have e : (0 : Int) = 1 := e
      omega
  · rw [nth_S0 hi]
    rfl
end Go.Proofs.Ytmbniilpgbjcfaa

set_option maxRecDepth 100000
namespace Go.Proofs.Ytmbniilpgbjcfaa
open Go.Lift
structure SI (v : View) (S : List Agr) (F : List Pkt) (g : Gh) : Prop where
  len : S.length = v.mem.length
  inv : GInv v g
  st : ∀ i, i < v.mem.length → (nthA S i).self = v.mem.getD i 0 ∧ (nthA S i).view = v ∧ AW (nthA S i) ∧ few (nthA S i) ∧ GOk v g (nthA S i)
  fl : ∀ f ∈ F, vmB v f.m = true ∧ f.to ∈ v.mem ∧ f.m.src ≠ f.to ∧ FOk v g f.m
section
variable {v : View} {S : List Agr} {F : List Pkt} {g : Gh}
theorem si_less {F' : List Pkt} (h : SI v S F g) (hs : ∀ f ∈ F', f ∈ F) : SI v S F' g := ⟨h.len, h.inv, h.st, fun f hf => h.fl f (hs f hf)⟩
theorem si_act (hv : viewB v = true) (h : SI v S F g) {a : Nat} (ha : a < v.mem.length) {x : Agr × List Pkt} (hr : Res v g (nthA S a) x) (hn : Nice (nthA S a) x) : ∃ g', SI v (S.set a x.1) (F ++ spreadR v x.2) g' := by
  obtain ⟨g', i1, s1, p1, q1, f1⟩ := hr
  obtain ⟨n1, n2, n3, n4, n5⟩ := hn
  obtain ⟨b1, b2, b3, b4, b5⟩ := h.st a ha
  have haS : a < S.length := by rw [h.len]; exact ha
  refine ⟨g', by rw [List.length_set]; exact h.len, i1, fun i hi => ?_, fun f hf => ?_⟩
  · rw [nth_set haS]
    by_cases he : i = a
    · rw [if_pos he, he]
      exact ⟨n4.trans b1, n3.trans b2, n1, n2, q1⟩
    · rw [if_neg he]
      obtain ⟨c1, c2, c3, c4, c5⟩ := h.st i hi
      exact ⟨c1, c2, c3, c4, gok_other c3 s1 (by rw [c1, b1]; exact mem_ne hv hi ha he) c5⟩
  · rcases List.mem_append.1 hf with hf | hf
    · obtain ⟨c1, c2, c3, c4⟩ := h.fl f hf
      exact ⟨c1, c2, c3, fok_ext s1.ext c1 c4⟩
    · obtain ⟨p, hp, e, h2, h3⟩ := spr_mem hf
      have := n5 p hp
      rw [e]
      refine ⟨by rw [← b2]; exact this.vm, h2, ?_, f1 p hp⟩
      rcases h3 with h3 | ⟨_, h3⟩
      · rw [← h3, this.src]
        exact fun e => this.ne e.symm
      · exact fun e => h3 e.symm
end
def plN (v : View) (x : Int) : Nat := (placeB v.mem x).toNat
theorem pl_at {v : View} {x : Int} (h : x ∈ v.mem) : plN v x < v.mem.length ∧ placeB v.mem x = (plN v x : Int) ∧ v.mem.getD (plN v x) 0 = x := by
  obtain ⟨a, h1, h2, h3⟩ := place_at h
  unfold plN
  rw [h2, Int.toNat_natCast]
  exact ⟨h1, rfl, h3⟩
def dlv (v : View) (dn : Nat → Bool) (x : List Agr × List Pkt) (f : Pkt) : List Agr × List Pkt :=
  bif dn (plN v f.to) then x else (x.1.set (plN v f.to) (recA (nthA x.1 (plN v f.to)) f.m).1, x.2 ++ spreadR v (recA (nthA x.1 (plN v f.to)) f.m).2.1)
def dlvA (v : View) (dn : Nat → Bool) (S : List Agr) (fly : List Pkt) : Nat → List Agr × List Pkt
  | 0 => (S, [])
  | i + 1 => dlv v dn (dlvA v dn S fly i) (fly.getD i pkt0)
def tck (v : View) (dn : Nat → Bool) (x : List Agr × List Pkt) (k : Nat) : List Agr × List Pkt :=
  bif dn k then x else (x.1.set k (tickA (nthA x.1 k)).1, x.2 ++ spreadR v (tickA (nthA x.1 k)).2)
def tckA (v : View) (dn : Nat → Bool) (x : List Agr × List Pkt) : Nat → List Agr × List Pkt
  | 0 => x
  | k + 1 => tck v dn (tckA v dn x k) k
def roundR (v : View) (dn : Nat → Bool) (S : List Agr) (fly : List Pkt) : List Agr × List Pkt := tckA v dn (dlvA v dn S fly fly.length) v.mem.length
section
variable {v : View} {dn : Nat → Bool}
theorem si_dlv (hv : viewB v = true) {S : List Agr} {N fly : List Pkt} {g : Gh} (h : SI v S (fly ++ N) g) {f : Pkt} (hf : f ∈ fly) : (dn (plN v f.to) = false → (recA (nthA S (plN v f.to)) f.m).2.2 = 0) ∧ ∃ g', SI v (dlv v dn (S, N) f).1 (fly ++ (dlv v dn (S, N) f).2) g' := by
  obtain ⟨f1, f2, f3, f4⟩ := h.fl f (List.mem_append_left _ hf)
  obtain ⟨hb, _, hbm⟩ := pl_at f2
  obtain ⟨r1, r2, r3, r4, r5⟩ := h.st _ hb
  obtain ⟨hX, hres⟩ := g_rec h.inv r3 r4 r2 r5 f1 (by rw [r1, hbm]; exact f3) f4
  refine ⟨fun _ => hX, ?_⟩
  unfold dlv
  cases dn (plN v f.to)
  · obtain ⟨g', h'⟩ := si_act hv h hb hres (nice_rec r3 r4 hX)
    refine ⟨g', ?_⟩
    simp only [cond_false]
    rw [← List.append_assoc]
    exact h'
  · exact ⟨g, h⟩
theorem si_dlvA (hv : viewB v = true) {S : List Agr} {fly : List Pkt} {g : Gh} (h : SI v S fly g) : ∀ i, i ≤ fly.length → ∃ g', SI v (dlvA v dn S fly i).1 (fly ++ (dlvA v dn S fly i).2) g'
  | 0, _ => ⟨g, by simpa [dlvA] using h⟩
  | i + 1, hi => by
    obtain ⟨g', h'⟩ := si_dlvA hv h i (by omega)
    have hm : fly.getD i pkt0 ∈ fly := by simp [show i < fly.length by omega]
    unfold dlvA
    exact (si_dlv hv h' hm).2
theorem si_tck (hv : viewB v = true) {S : List Agr} {N fly : List Pkt} {g : Gh} (h : SI v S (fly ++ N) g) {k : Nat} (hk : k < v.mem.length) : ∃ g', SI v (tck v dn (S, N) k).1 (fly ++ (tck v dn (S, N) k).2) g' := by
  unfold tck
  cases dn k
  · obtain ⟨r1, r2, r3, r4, r5⟩ := h.st _ hk
    obtain ⟨g', h'⟩ := si_act hv h hk (g_tick h.inv r3 r4 r2 r5) (nice_tick r3 r4)
    refine ⟨g', ?_⟩
    simp only [cond_false]
    rw [← List.append_assoc]
    exact h'
  · exact ⟨g, h⟩
theorem si_tckA (hv : viewB v = true) {x : List Agr × List Pkt} {fly : List Pkt} {g : Gh} (h : SI v x.1 (fly ++ x.2) g) : ∀ k, k ≤ v.mem.length → ∃ g', SI v (tckA v dn x k).1 (fly ++ (tckA v dn x k).2) g'
  | 0, _ => ⟨g, h⟩
  | k + 1, hk => by
    obtain ⟨g', h'⟩ := si_tckA hv h k (by omega)
    unfold tckA
    exact si_tck hv h' (by omega)
theorem si_round (hv : viewB v = true) {S : List Agr} {fly : List Pkt} {g : Gh} (h : SI v S fly g) : ∃ g', SI v (roundR v dn S fly).1 (roundR v dn S fly).2 g' := by
  obtain ⟨g1, h1⟩ := si_dlvA (dn := dn) hv h fly.length (Nat.le_refl _)
  obtain ⟨g2, h2⟩ := si_tckA (dn := dn) hv h1 v.mem.length (Nat.le_refl _)
  exact ⟨g2, si_less h2 (fun f hf => List.mem_append_right _ hf)⟩
end
def wt (k : Int) : Nat := if k = 6 then 1 else if k = 2 ∨ k = 4 then 43 else 7
theorem wt_le (k : Int) : 1 ≤ wt k ∧ wt k ≤ 43 := by
  unfold wt
  split
  · omega
  · split <;> omega
def wts (l : List Pkt) : Nat := (l.map fun p => wt p.m.kind).sum
theorem wts_app (l l' : List Pkt) : wts (l ++ l') = wts l + wts l' := by simp [wts]
theorem wts_cons (p : Pkt) (l : List Pkt) : wts (p :: l) = wt p.m.kind + wts l := by simp [wts]
theorem wts_le : ∀ l : List Pkt, l.length ≤ wts l ∧ wts l ≤ 43 * l.length
  | [] => by simp [wts]
  | p :: l => by
    have := wts_le l
    have := wt_le p.m.kind
    rw [wts_cons, List.length_cons]
    omega
theorem wts_sprI (v : View) (p : Pkt) : ∀ k, wts (sprI v p k) ≤ k * wt p.m.kind
  | 0 => by simp [sprI, wts]
  | k + 1 => by
    have ih := wts_sprI v p k
    unfold sprI
    rw [Nat.succ_mul]
    cases hitB v p k
    · simp only [cond_false]
      omega
    · simp only [cond_true]
      rw [wts_app, wts_cons]
      have : wts [] = 0 := rfl
      rw [this]
      simp only []
      omega
theorem wts_take (l : List Pkt) {i : Nat} (h : i < l.length) : wts (l.take (i + 1)) = wts (l.take i) + wt (l.getD i pkt0).m.kind := by
  have hg : l.getD i pkt0 = l[i] := by simp [h]
  rw [List.take_succ_eq_append_getElem h, wts_app, wts_cons, hg]
  rfl
theorem wts_spr {v : View} (h6 : v.mem.length ≤ 6) (ps : List Pkt) : wts (spreadR v ps) ≤ 6 * wts ps := by
  have key : ∀ i, i ≤ ps.length → wts (sprA v ps i) ≤ 6 * wts (ps.take i) := by
    intro i
    induction i with
    | zero => intro _; simp [sprA, wts]
    | succ i ih =>
      intro hi
      have h1 := ih (by omega)
      have h2 := wts_sprI v (ps.getD i pkt0) v.mem.length
      have h3 : v.mem.length * wt (ps.getD i pkt0).m.kind ≤ 6 * wt (ps.getD i pkt0).m.kind := Nat.mul_le_mul_right _ h6
      unfold sprA
      rw [wts_app, wts_take ps (by omega)]
      omega
  have := key ps.length (Nat.le_refl _)
  rw [List.take_length] at this
  exact this
def phi (s : Agr) : Nat := (if s.dec = [] then 6 else 0) + (if s.phase = 1 then 258 else 0)
theorem phi_le (s : Agr) : phi s ≤ 264 := by
  unfold phi
  split <;> split <;> omega
theorem end_w (s : Agr) (ps : List Pkt) : 6 * wts (endA s ps).2 + phi (endA s ps).1 ≤ 6 * wts ps + phi s := by
  unfold endA
  cases hc : decide ((s.dec.length : Int) = 0) && decide (0 < ((decR s).length : Int))
  · exact Nat.le_refl _
  · rw [Bool.and_eq_true] at hc
    have h1 := len0.1 hc.1
    have h2 := len1.1 hc.2
    have e1 : phi { s with dec := decR s } + 6 = phi s := by
      unfold phi
      simp only []
      rw [if_neg h2, if_pos h1]
      omega
    have e2 : wt (pktOf s 0 6 0 0 (decR s)).m.kind = 1 := rfl
    simp only [cond_true]
    rw [wts_app, wts_cons, e2]
    have : wts [] = 0 := rfl
    rw [this]
    omega
theorem wts_one (p : Pkt) : wts [p] = wt p.m.kind := by
  rw [wts_cons]
  rfl
theorem act_w {s : Agr} (hd : s.dec = []) {m : Msg} (hm : vmB s.view m = true) : 6 * wts (actA s m).2 + phi (actA s m).1 + 1 ≤ wt m.kind + phi s := by
  have h0 : wts [] = 0 := rfl
  have hi : ∀ t : Agr, t.dec = s.dec → t.phase = s.phase → phi t = phi s := fun t a b => by
    unfold phi
    rw [a, b]
  unfold actA
  rcases vm_kind hm with hk | hk | hk | hk | hk | hk
  · rw [if_pos hk, hk]
    have e : phi (voteA s m) = phi s := by
      unfold voteA
      cases decide ((castR s.view s.box ⟨m.src, m.cut⟩).2 = 0) <;> exact hi _ rfl rfl
    have : wt 1 = 7 := rfl
    simp only []
    rw [e, h0, this]
    omega
  · rw [if_neg (by omega), if_pos hk, hk]
    have hw : wt 2 = 43 := rfl
    have e1 : 6 * wts (prepA s m).2 ≤ 42 := by
      unfold prepA
      cases (prepR s.acc m.rank).2.2
      · simp [h0]
      · simp only [cond_true]
        rw [wts_one]
        exact Nat.le_refl 42
    have e2 : phi (prepA s m).1 ≤ phi s := by
      have hid : ∀ t : Agr, t.dec = s.dec → phi (idleA t) ≤ phi s := fun t a => by
        unfold phi idleA
        simp only []
        rw [a, if_neg (show ¬ (0 : Int) = 1 by omega)]
        omega
      unfold prepA
      cases decide (s.rank < m.rank) && !decide (s.phase = 0) <;> cases (prepR s.acc m.rank).2.2
      · exact Nat.le_refl _
      · exact Nat.le_of_eq (hi _ rfl rfl)
      · exact hid _ rfl
      · exact hid _ rfl
    rw [hw]
    omega
  · rw [if_neg (by omega), if_neg (by omega), if_pos hk, hk]
    have hw : wt 3 = 7 := rfl
    rw [hw]
    unfold promA
    cases hb : !decide (s.phase = 1) || !decide (m.rank = s.rank)
    · simp only [Bool.or_eq_false_iff, Bool.not_eq_false', decide_eq_true_eq] at hb
      have hdA : (advA { s with reps := (addR s.view s.reps ⟨m.src, m.last, m.cut⟩).1 }).dec = s.dec := by
        unfold advA
        cases !decide (({ s with reps := (addR s.view s.reps ⟨m.src, m.last, m.cut⟩).1 } : Agr).phase = 1) || decide ((({ s with reps := (addR s.view s.reps ⟨m.src, m.last, m.cut⟩).1 } : Agr).reps.length : Int) < majB ({ s with reps := (addR s.view s.reps ⟨m.src, m.last, m.cut⟩).1 } : Agr).view.mem.length)
        · cases (acceptR ({ s with reps := (addR s.view s.reps ⟨m.src, m.last, m.cut⟩).1 } : Agr).acc ({ s with reps := (addR s.view s.reps ⟨m.src, m.last, m.cut⟩).1 } : Agr).rank (chooseR ({ s with reps := (addR s.view s.reps ⟨m.src, m.last, m.cut⟩).1 } : Agr).view ({ s with reps := (addR s.view s.reps ⟨m.src, m.last, m.cut⟩).1 } : Agr).reps ({ s with reps := (addR s.view s.reps ⟨m.src, m.last, m.cut⟩).1 } : Agr).prop).1).2 <;> rfl
        · rfl
      generalize advA { s with reps := (addR s.view s.reps ⟨m.src, m.last, m.cut⟩).1 } = A at *
      simp only [cond_false]
      have hs : phi s = 264 := by
        unfold phi
        rw [if_pos hd, if_pos hb.1]
      cases hA : decide (A.phase = 2)
      · simp only [cond_false]
        have := phi_le A
        rw [h0]
        omega
      · simp only [cond_true]
        rw [wts_one]
        have hA := of_decide_eq_true hA
        have e1 : phi A = 6 := by
          unfold phi
          rw [hdA, if_pos hd, if_neg (by omega)]
        have e2 : wt (pktOf A 0 4 A.rank 0 A.cho).m.kind = 43 := rfl
        rw [e1, e2, hs]
        omega
    · simp only [cond_true]
      rw [h0]
      omega
  · rw [if_neg (by omega), if_neg (by omega), if_neg (by omega), if_pos hk, hk]
    have hw : wt 4 = 43 := rfl
    rw [hw]
    unfold acctA
    cases (acceptR s.acc m.rank m.cut).2
    · simp only [cond_false]
      have e := hi { s with accs := enterR s.view s.accs ⟨m.src, m.rank, m.cut⟩ } rfl rfl
      rw [h0]
      omega
    · simp only [cond_true]
      have e := hi { s with acc := (acceptR s.acc m.rank m.cut).1, accs := enterR s.view (enterR s.view s.accs ⟨m.src, m.rank, m.cut⟩) ⟨s.self, m.rank, m.cut⟩ } rfl rfl
      rw [wts_one]
      have : wt (pktOf s 0 5 m.rank 0 m.cut).m.kind = 7 := rfl
      rw [this]
      omega
  · rw [if_neg (by omega), if_neg (by omega), if_neg (by omega), if_neg (by omega), if_pos hk, hk]
    have hw : wt 5 = 7 := rfl
    simp only []
    have e := hi { s with accs := enterR s.view s.accs ⟨m.src, m.rank, m.cut⟩ } rfl rfl
    rw [hw, h0]
    omega
  · rw [if_neg (by omega), if_neg (by omega), if_neg (by omega), if_neg (by omega), if_neg (by omega), hk]
    have hw : wt 6 = 1 := rfl
    have hc := app_ne ((vm_body hm).1 (.inr hk))
    simp only []
    rw [wts_one, hw]
    have e1 : phi { s with dec := m.cut } + 6 = phi s := by
      unfold phi
      simp only []
      rw [if_neg hc, if_pos hd]
      omega
    have e2 : wt (pktOf s 0 6 0 0 m.cut).m.kind = 1 := rfl
    rw [e2]
    omega
theorem rec_w {s : Agr} (hA : AW s) (hf : few s) {m : Msg} (hm : vmB s.view m = true) (hs : m.src ≠ s.self) : 6 * wts (recA s m).2.1 + phi (recA s m).1 + 1 ≤ wt m.kind + phi s := by
  have hb : agrB s = true := (agr_iff s).2 ⟨hA, hf⟩
  have h0 : wts [] = 0 := rfl
  unfold recA
  rw [if_neg (by rw [hb]; simp), if_neg (by rw [decide_eq_true (vm_view hm).2]; simp), if_neg (by rw [hm, decide_eq_false hs]; simp)]
  by_cases h5 : decide (0 < (s.dec.length : Int)) = true
  · rw [if_pos h5]
    cases hk : decide (m.kind = 6)
    · simp only [cond_false]
      rw [wts_one]
      have e2 : wt (pktOf s m.src 6 0 0 s.dec).m.kind = 1 := rfl
      have hk := of_decide_eq_false hk
      have : 7 ≤ wt m.kind := by
        unfold wt
        rw [if_neg hk]
        split <;> omega
      rw [e2]
      omega
    · simp only [cond_true]
      have := wt_le m.kind
      rw [h0]
      omega
  · rw [if_neg h5]
    have hd := len1f.1 (by simpa using h5)
    have h1 := end_w (actA s m).1 (actA s m).2
    have h2 := act_w hd hm
    simp only []
    omega
theorem tick_w {s : Agr} (hA : AW s) (hf : few s) : 6 * wts (tickA s).2 + phi (tickA s).1 ≤ phi s + 700 := by
  have hb : agrB s = true := (agr_iff s).2 ⟨hA, hf⟩
  have h0 : wts [] = 0 := rfl
  unfold tickA
  rw [if_neg (by rw [hb]; simp)]
  by_cases h5 : decide (0 < (s.dec.length : Int)) = true
  · rw [if_pos h5, wts_one]
    have e2 : wt (pktOf s 0 6 0 0 s.dec).m.kind = 1 := rfl
    rw [e2]
    simp only []
    omega
  · rw [if_neg h5]
    have h1 := end_w (stepA s) (rsdA (stepA s))
    have h2 : wts (rsdA (stepA s)) ≤ 57 := by
      unfold rsdA
      rw [wts_app, wts_app]
      have e1 : wts (sndV (stepA s)) ≤ 7 := by
        unfold sndV
        cases (cutOf (stepA s).box (stepA s).self).2
        · simp [h0]
        · simp only [cond_true]
          rw [wts_one]
          exact Nat.le_refl 7
      have e2 : wts (sndP (stepA s)) ≤ 43 := by
        unfold sndP
        cases decide ((stepA s).phase = 1)
        · cases decide ((stepA s).phase = 2)
          · simp [h0]
          · simp only [cond_true, cond_false]
            rw [wts_one]
            exact Nat.le_refl 43
        · simp only [cond_true]
          rw [wts_one]
          exact Nat.le_refl 43
      have e3 : wts (sndA (stepA s)) ≤ 7 := by
        unfold sndA
        cases decide (0 ≤ ofB (stepA s).accs (stepA s).self) && !decide ((stepA s).phase = 2)
        · simp [h0]
        · simp only [cond_true]
          rw [wts_one]
          exact Nat.le_refl 7
      omega
    have h3 := phi_le (stepA s)
    have h4 : s.dec = [] := len1f.1 (by simpa using h5)
    have h5 : 6 ≤ phi s := by
      unfold phi
      rw [if_pos h4]
      omega
    omega
def phis (S : List Agr) : Nat := (S.map phi).sum
theorem phis_set {x : Agr} : ∀ {S : List Agr} {a : Nat}, a < S.length → phis (S.set a x) + phi (nthA S a) = phis S + phi x
  | [], a, h => by simp at h
  | s :: S, 0, _ => by
    simp [phis, nthA]
    omega
  | s :: S, a + 1, h => by
    have ih := phis_set (x := x) (S := S) (a := a) (by simpa using h)
    have e : nthA (s :: S) (a + 1) = nthA S a := by simp [nthA]
    rw [e]
    simp only [phis, List.set_cons_succ, List.map_cons, List.sum_cons] at *
    omega
theorem phis_le (S : List Agr) : phis S ≤ 264 * S.length := by
  induction S with
  | nil => simp [phis]
  | cons s S ih =>
    have := phi_le s
    simp only [phis, List.map_cons, List.sum_cons, List.length_cons] at *
    omega
section
variable {v : View} {dn : Nat → Bool}
theorem dlvA_w (hv : viewB v = true) (h6 : v.mem.length ≤ 6) {S : List Agr} {fly : List Pkt} {g : Gh} (h : SI v S fly g) : ∀ i, i ≤ fly.length → wts (dlvA v dn S fly i).2 + phis (dlvA v dn S fly i).1 + i ≤ wts (fly.take i) + phis S
  | 0, _ => by simp [dlvA, wts]
  | i + 1, hi => by
    have ih := dlvA_w hv h6 h i (by omega)
    obtain ⟨g', h'⟩ := si_dlvA (dn := dn) hv h i (by omega)
    have hm : fly.getD i pkt0 ∈ fly := by simp [show i < fly.length by omega]
    have hw := wts_take fly (show i < fly.length by omega)
    unfold dlvA
    generalize dlvA v dn S fly i = x at *
    generalize fly.getD i pkt0 = f at *
    obtain ⟨f1, f2, f3, f4⟩ := h'.fl f (List.mem_append_left _ hm)
    obtain ⟨hb, _, hbm⟩ := pl_at f2
    obtain ⟨r1, r2, r3, r4, r5⟩ := h'.st _ hb
    have hwt := wt_le f.m.kind
    unfold dlv
    cases dn (plN v f.to)
    · have h1 := rec_w r3 r4 (by rw [r2]; exact f1) (by rw [r1, hbm]; exact f3)
      have h2 := wts_spr h6 (recA (nthA x.1 (plN v f.to)) f.m).2.1
      have h3 := phis_set (x := (recA (nthA x.1 (plN v f.to)) f.m).1) (S := x.1) (a := plN v f.to) (by rw [h'.len]; exact hb)
      simp only [cond_false]
      rw [wts_app]
      omega
    · simp only [cond_true]
      omega
theorem tckA_w (hv : viewB v = true) (h6 : v.mem.length ≤ 6) {x : List Agr × List Pkt} {fly : List Pkt} {g : Gh} (h : SI v x.1 (fly ++ x.2) g) : ∀ k, k ≤ v.mem.length → wts (tckA v dn x k).2 + phis (tckA v dn x k).1 ≤ wts x.2 + phis x.1 + 700 * k
  | 0, _ => Nat.le_refl _
  | k + 1, hk => by
    have ih := tckA_w hv h6 h k (by omega)
    obtain ⟨g', h'⟩ := si_tckA (dn := dn) hv h k (by omega)
    unfold tckA
    generalize tckA v dn x k = y at *
    obtain ⟨r1, r2, r3, r4, r5⟩ := h'.st k (by omega)
    unfold tck
    cases dn k
    · have h1 := tick_w r3 r4
      have h2 := wts_spr h6 (tickA (nthA y.1 k)).2
      have h3 := phis_set (x := (tickA (nthA y.1 k)).1) (S := y.1) (a := k) (by rw [h'.len]; omega)
      simp only [cond_false]
      rw [wts_app]
      omega
    · simp only [cond_true]
      omega
theorem round_w (hv : viewB v = true) (h6 : v.mem.length ≤ 6) {S : List Agr} {fly : List Pkt} {g : Gh} (h : SI v S fly g) (hT : wts fly + phis S ≤ 200000) : wts (roundR v dn S fly).2 + phis (roundR v dn S fly).1 ≤ 200000 := by
  have h1 := dlvA_w (dn := dn) hv h6 h fly.length (Nat.le_refl _)
  rw [List.take_length] at h1
  obtain ⟨g1, h2⟩ := si_dlvA (dn := dn) hv h fly.length (Nat.le_refl _)
  have h3 := tckA_w (dn := dn) hv h6 h2 v.mem.length (Nat.le_refl _)
  have h4 := (wts_le fly).2
  have h5 := phis_le S
  have h7 := h.len
  have h8 : 264 * S.length ≤ 264 * 6 := Nat.mul_le_mul_left _ (by omega)
  unfold roundR
  omega
end
end Go.Proofs.Ytmbniilpgbjcfaa

set_option maxRecDepth 100000
namespace Go.Proofs.Ytmbniilpgbjcfaa
open Go.Lift
def has (l : List Rpt) (x : Int) : Prop := ∃ y ∈ l, y.mem = x
theorem addnew {v : View} {l : List Rpt} {r : Rpt} (h : repsB v l = true) (hr : vrB v r = true) (hn : ∀ x ∈ l, x.mem ≠ r.mem) : (addR v l r).1 = insR l r := by
  have hv : viewB v = true := by
    simp only [repsB, Bool.and_eq_true] at h
    exact h.1
  obtain ⟨h1, h2⟩ := (reps_iff hv).1 h
  have h3 : repsB v (insR l r) = true := (reps_iff hv).2 ⟨fun x hx => by
    rcases insR_mem hx with rfl | hx
    · exact hr
    · exact h1 x hx, (ins_pair h2).2 hn⟩
  unfold addR
  rw [h, h3]
  rfl
theorem insR_self (l : List Rpt) (r : Rpt) : r ∈ insR l r := by
  unfold insR
  simp
theorem add_has {v : View} {l : List Rpt} {r : Rpt} (h : repsB v l = true) (hr : vrB v r = true) : has (addR v l r).1 r.mem := by
  by_cases hx : ∃ y ∈ l, y.mem = r.mem
  · obtain ⟨y, hy, e⟩ := hx
    exact ⟨y, add_sub h hy, e⟩
  · rw [addnew h hr (fun x hx2 e => hx ⟨x, hx2, e⟩)]
    exact ⟨r, insR_self l r, rfl⟩
theorem ent_old {v : View} {l : List Rpt} {r : Rpt} {x : Int} (h : repsB v l = true) (hx : has l x) : has (enterR v l r) x := by
  obtain ⟨y, hy, rfl⟩ := hx
  unfold enterR
  cases h1 : decide (0 ≤ ofB l r.mem)
  · exact ⟨y, add_sub h hy, rfl⟩
  · simp only [cond_true]
    cases decide ((l.getD (ofB l r.mem).toNat rpt0).rank < r.rank)
    · exact ⟨y, hy, rfl⟩
    · simp only [cond_true]
      obtain ⟨_, hk⟩ := ofr_ix h1
      have hat := of_at h1
      rw [show l.getD (ofB l r.mem).toNat rpt0 = l[(ofB l r.mem).toNat] by simp [hk]] at hat
      obtain ⟨j, hj, rfl⟩ := List.getElem_of_mem hy
      generalize (ofB l r.mem).toNat = k at *
      by_cases e : j = k
      · subst e
        exact ⟨r, List.mem_of_getElem? (i := j) (by simp [hj]), hat.symm⟩
      · exact ⟨l[j], List.mem_of_getElem? (i := j) (by rw [List.getElem?_set_ne (fun e2 : k = j => e e2.symm)]; simp [hj]), rfl⟩
theorem ent_new {v : View} {l : List Rpt} {r : Rpt} (h : repsB v l = true) (hr : vrB v r = true) : has (enterR v l r) r.mem := by
  by_cases hx : has l r.mem
  · exact ent_old h hx
  · have h1 : decide (0 ≤ ofB l r.mem) = false := by
      cases hc : decide (0 ≤ ofB l r.mem)
      · rfl
      · exact absurd (ofb_iff.1 (of_decide_eq_true hc)) hx
    unfold enterR
    rw [h1]
    exact add_has h hr
theorem ent_rank {v : View} {l : List Rpt} {r : Rpt} {P : Int → Prop} (h : ∀ x ∈ l, P x.rank) (hr : P r.rank) : ∀ x ∈ enterR v l r, P x.rank := fun x hx => by
  rcases enter_mem hx with rfl | hx
  · exact hr
  · exact h x hx
structure UO (b : Prop) (ρ w : Int) (s : Agr) : Prop where
  dec : s.dec = []
  prop : s.prop ≠ []
  pro : s.acc.pro = 0 ∨ b ∧ s.acc.pro = ρ
  ar : s.acc.rank = 0 ∨ b ∧ s.acc.rank = ρ
  accs : ∀ x ∈ s.accs, b ∧ x.rank = ρ
  rk : s.rank = 0
  ph : s.phase = 0
  wait : s.wait = w
structure UC (ρ w : Int) (s : Agr) : Prop where
  dec : s.dec = []
  prop : s.prop ≠ []
  pro : s.acc.pro = ρ
  ar : s.phase = 1 ∧ s.acc.rank = 0 ∨ s.phase = 2 ∧ has s.accs s.self
  accs : ∀ x ∈ s.accs, x.rank = ρ
  rk : s.rank = ρ
  wait : s.wait = w
def MO (b : Prop) (ρ : Int) (m : Msg) : Prop := m.kind = 1 ∨ b ∧ m.kind ≠ 6 ∧ m.rank = ρ
theorem end_dec {s : Agr} (h : s.dec = []) (ps : List Pkt) : (endA s ps).1.dec ≠ [] ∨ endA s ps = (s, ps) := by
  unfold endA
  cases hc : decide ((s.dec.length : Int) = 0) && decide (0 < ((decR s).length : Int))
  · exact .inr rfl
  · rw [Bool.and_eq_true] at hc
    exact .inl (len1.1 hc.2)
theorem rec_eq {s : Agr} (hA : AW s) (hf : few s) {m : Msg} (hm : vmB s.view m = true) (hs : m.src ≠ s.self) (hd : s.dec = []) : (recA s m).1 = (endA (actA s m).1 (actA s m).2).1 ∧ (recA s m).2.1 = (endA (actA s m).1 (actA s m).2).2 := by
  have hb : agrB s = true := (agr_iff s).2 ⟨hA, hf⟩
  unfold recA
  rw [if_neg (by rw [hb]; simp), if_neg (by rw [decide_eq_true (vm_view hm).2]; simp), if_neg (by rw [hm, decide_eq_false hs]; simp), if_neg (by rw [hd]; simp)]
  exact ⟨rfl, rfl⟩
theorem rec_dec {s : Agr} (hA : AW s) (hf : few s) {m : Msg} (hm : vmB s.view m = true) (hs : m.src ≠ s.self) (hd : s.dec ≠ []) : (recA s m).1 = s := by
  have hb : agrB s = true := (agr_iff s).2 ⟨hA, hf⟩
  unfold recA
  rw [if_neg (by rw [hb]; simp), if_neg (by rw [decide_eq_true (vm_view hm).2]; simp), if_neg (by rw [hm, decide_eq_false hs]; simp), if_pos (len1.2 hd)]
theorem rec_six {s : Agr} (hA : AW s) (hf : few s) {m : Msg} (hm : vmB s.view m = true) (hs : m.src ≠ s.self) (hk : m.kind = 6) : (recA s m).1.dec ≠ [] := by
  by_cases hd : s.dec = []
  · have hc := app_ne ((vm_body hm).1 (.inr hk))
    rw [(rec_eq hA hf hm hs hd).1]
    have e : actA s m = ({ s with dec := m.cut }, [pktOf s 0 6 0 0 m.cut]) := by
      unfold actA
      rw [if_neg (by omega), if_neg (by omega), if_neg (by omega), if_neg (by omega), if_neg (by omega)]
    rw [e]
    unfold endA
    have : decide (((({ s with dec := m.cut } : Agr).dec).length : Int) = 0) = false := by
      cases hz : decide (((({ s with dec := m.cut } : Agr).dec).length : Int) = 0)
      · rfl
      · exact absurd (len0.1 hz) hc
    rw [this]
    exact hc
  · rw [rec_dec hA hf hm hs hd]
    exact hd
theorem vr_msg {v : View} {m : Msg} (h : vmB v m = true) (hk : m.kind = 3) : vrB v ⟨m.src, m.last, m.cut⟩ = true := by
  obtain ⟨h1, _, h3⟩ := (vm_body h).2.2.1 hk
  simp only [vrB, Bool.and_eq_true, Bool.or_eq_true, decide_eq_true_eq]
  refine ⟨(vm_view h).1, ?_⟩
  rcases h3 with h3 | h3
  · left
    rw [h3.2]
    exact ⟨h3.1, rfl⟩
  · right
    refine ⟨?_, of_decide_eq_true h3.2⟩
    rcases h3.1 with h4 | h4
    · exact .inl h4
    · exact .inr (proper_use h4).1
theorem accept_yes {a : Acc} {r : Int} {c : List Int} (h : accB a = true) (hu : usableB r = true) (hle : a.pro ≤ r) (hc : idsB c 32 = true) (he : a.rank = r → a.cut = c) : acceptR a r c = (⟨r, r, c⟩, true) := by
  have h1 : (!usableB r || decide (r < a.pro) || !idsB c 32 || decide (a.rank = r) && !sameI a.cut c) = false := by
    rw [hu, decide_eq_false (by omega), hc]
    by_cases e : a.rank = r
    · rw [he e, sameI_refl]
      simp
    · rw [decide_eq_false e]
      rfl
  unfold acceptR
  rw [h]
  simp only [Bool.not_true, cond_false]
  rw [h1]
  rfl
section
variable {b : Prop} {ρ w : Int} {s : Agr} {m : Msg}
theorem uo_act (hA : AW s) (hu : UO b ρ w s) (hm : vmB s.view m = true) (hM : MO b ρ m) (hr : usableB ρ = true) (hacc : m.kind = 4 → s.acc.rank = ρ → s.acc.cut = m.cut) :
    UO b ρ w (actA s m).1 ∧ (∀ p ∈ (actA s m).2, MO b ρ p.m) ∧ (∀ x, has s.accs x → has (actA s m).1.accs x) ∧
    (m.kind = 2 → ∃ l c, pktOf s m.src 3 ρ l c ∈ (actA s m).2) ∧
    (m.kind = 4 → has (actA s m).1.accs m.src ∧ has (actA s m).1.accs s.self ∧ ∃ c, pktOf s 0 5 ρ 0 c ∈ (actA s m).2) ∧
    (m.kind = 5 → has (actA s m).1.accs m.src) := by
  have hpos := use_pos hr
  have hpro : s.acc.pro ≤ ρ := by
    rcases hu.pro with h | h <;> omega
  unfold actA
  rcases vm_kind hm with hk | hk | hk | hk | hk | hk
  · rw [if_pos hk]
    have key : UO b ρ w (voteA s m) ∧ ∀ x, has s.accs x → has (voteA s m).accs x := by
      unfold voteA
      cases decide ((castR s.view s.box ⟨m.src, m.cut⟩).2 = 0)
      · exact ⟨hu, fun _ h => h⟩
      · exact ⟨⟨hu.dec, hu.prop, hu.pro, hu.ar, hu.accs, hu.rk, hu.ph, hu.wait⟩, fun _ h => h⟩
    exact ⟨key.1, (fun p hp => by cases hp), key.2, fun e => by omega, fun e => by omega, fun e => by omega⟩
  · rw [if_neg (by omega), if_pos hk]
    have hb : b ∧ m.rank = ρ := by
      rcases hM with h | h
      · omega
      · exact ⟨h.1, h.2.2⟩
    have e0 : prepR s.acc m.rank = (⟨ρ, s.acc.rank, s.acc.cut⟩, ⟨0, s.acc.rank, s.acc.cut⟩, true) := by
      unfold prepR
      rw [hA.acc, hb.2, hr, decide_eq_false (by omega)]
      rfl
    have e : prepA s m = ({ s with acc := ⟨ρ, s.acc.rank, s.acc.cut⟩ }, [pktOf s m.src 3 m.rank s.acc.rank s.acc.cut]) := by
      unfold prepA
      rw [e0, hu.ph]
      simp
    rw [e, hb.2]
    refine ⟨⟨hu.dec, hu.prop, .inr ⟨hb.1, rfl⟩, hu.ar, hu.accs, hu.rk, hu.ph, hu.wait⟩, fun p hp => ?_, fun _ h => h, fun _ => ⟨_, _, List.mem_singleton.2 rfl⟩, fun e => by omega, fun e => by omega⟩
    rw [List.mem_singleton.1 hp]
    exact .inr ⟨hb.1, (by show (3 : Int) ≠ 6; omega), rfl⟩
  · rw [if_neg (by omega), if_neg (by omega), if_pos hk]
    have e : promA s m = (s, []) := by
      unfold promA
      rw [hu.ph]
      rfl
    rw [e]
    exact ⟨hu, (fun p hp => by cases hp), fun _ h => h, fun e => by omega, fun e => by omega, fun e => by omega⟩
  · rw [if_neg (by omega), if_neg (by omega), if_neg (by omega), if_pos hk]
    obtain ⟨hp4, _, hc4⟩ := (vm_body hm).2.2.2.1 hk
    have hb : b ∧ m.rank = ρ := by
      rcases hM with h | h
      · omega
      · exact ⟨h.1, h.2.2⟩
    have e0 : acceptR s.acc m.rank m.cut = (⟨ρ, ρ, m.cut⟩, true) := by
      rw [hb.2]
      exact accept_yes hA.acc hr hpro (app_ids (of_decide_eq_true hc4)) (hacc hk)
    have e : acctA s m = ({ s with acc := ⟨ρ, ρ, m.cut⟩, accs := enterR s.view (enterR s.view s.accs ⟨m.src, m.rank, m.cut⟩) ⟨s.self, m.rank, m.cut⟩ }, [pktOf s 0 5 m.rank 0 m.cut]) := by
      unfold acctA
      rw [e0]
      rfl
    rw [e, hb.2]
    have v1 : vrB s.view ⟨m.src, ρ, m.cut⟩ = true := vr_mk (vm_view hm).1 hr hc4
    have v2 : vrB s.view ⟨s.self, ρ, m.cut⟩ = true := vr_mk hA.self hr hc4
    have r1 := enter_reps hA.v hA.accs v1
    refine ⟨⟨hu.dec, hu.prop, .inr ⟨hb.1, rfl⟩, .inr ⟨hb.1, rfl⟩, ?_, hu.rk, hu.ph, hu.wait⟩, fun p hp => ?_, fun x h => ent_old r1 (ent_old hA.accs h), fun e => by omega, fun _ => ⟨ent_old r1 (ent_new hA.accs v1), ent_new r1 v2, _, List.mem_singleton.2 rfl⟩, fun e => by omega⟩
    · exact ent_rank (P := fun x => b ∧ x = ρ) (ent_rank (P := fun x => b ∧ x = ρ) hu.accs ⟨hb.1, rfl⟩) ⟨hb.1, rfl⟩
    · rw [List.mem_singleton.1 hp]
      exact .inr ⟨hb.1, (by show (5 : Int) ≠ 6; omega), rfl⟩
  · rw [if_neg (by omega), if_neg (by omega), if_neg (by omega), if_neg (by omega), if_pos hk]
    obtain ⟨hp5, hc5⟩ := (vm_body hm).2.2.2.2 hk
    have hb : b ∧ m.rank = ρ := by
      rcases hM with h | h
      · omega
      · exact ⟨h.1, h.2.2⟩
    rw [hb.2]
    have v1 : vrB s.view ⟨m.src, ρ, m.cut⟩ = true := vr_mk (vm_view hm).1 hr hc5
    exact ⟨⟨hu.dec, hu.prop, hu.pro, hu.ar, ent_rank (P := fun x => b ∧ x = ρ) hu.accs ⟨hb.1, rfl⟩, hu.rk, hu.ph, hu.wait⟩, (fun p hp => by cases hp), fun x h => ent_old hA.accs h, fun e => by omega, fun e => by omega, fun _ => ent_new hA.accs v1⟩
  · rcases hM with h | h
    · omega
    · exact absurd hk h.2.1
theorem uc_adv (hA : AW s) (h0 : s.dec = []) (hp : s.prop ≠ []) (hpro : s.acc.pro = ρ) (har : s.acc.rank = 0) (hac : ∀ x ∈ s.accs, x.rank = ρ) (hrk : s.rank = ρ) (hph : s.phase = 1) (hw : s.wait = w) (hr : usableB ρ = true) :
    UC ρ w (advA s) ∧ (∀ x, has s.accs x → has (advA s).accs x) ∧ (advA s = s ∨ (advA s).phase = 2) := by
  have hpos := use_pos hr
  rcases adv_cases hA with ⟨_, e⟩ | ⟨h1, hg, hpr, hap, _, ⟨ha, e⟩ | ⟨ha, e⟩⟩
  · rw [e]
    exact ⟨⟨h0, hp, hpro, .inl ⟨hph, har⟩, hac, hrk, hw⟩, fun _ h => h, .inl rfl⟩
  · rw [e]
    have v1 : vrB s.view ⟨s.self, s.rank, (chooseR s.view s.reps s.prop).1⟩ = true := vr_mk hA.self (by rw [hrk]; exact hr) hap
    refine ⟨⟨h0, hp, hrk, .inr ⟨rfl, ent_new hA.accs v1⟩, ent_rank (P := fun x => x = ρ) hac hrk, hrk, hw⟩, fun x h => ent_old hA.accs h, .inr rfl⟩
  · have := accept_yes (a := s.acc) (r := s.rank) (c := (chooseR s.view s.reps s.prop).1) hA.acc (by rw [hrk]; exact hr) (by omega) (app_ids (of_decide_eq_true hap)) (fun e => by omega)
    rw [this] at ha
    cases ha
theorem uc_act (hA : AW s) (hu : UC ρ w s) (hm : vmB s.view m = true) (hs : m.src ≠ s.self) (hM : MO True ρ m) (hr : usableB ρ = true) (hown : ownerOf ρ = s.self) :
    UC ρ w (actA s m).1 ∧ (∀ p ∈ (actA s m).2, MO True ρ p.m) ∧ (∀ x, has s.accs x → has (actA s m).1.accs x) ∧
    (m.kind = 3 → (actA s m).1.phase = 2 ∨ has (actA s m).1.reps m.src) ∧ (m.kind = 5 → has (actA s m).1.accs m.src) ∧
    (s.phase = 2 → (actA s m).1.phase = 2) ∧ (∀ x, has s.reps x → (actA s m).1.phase = 2 ∨ has (actA s m).1.reps x) := by
  have hpos := use_pos hr
  unfold actA
  rcases vm_kind hm with hk | hk | hk | hk | hk | hk
  · rw [if_pos hk]
    have key : UC ρ w (voteA s m) ∧ (voteA s m).accs = s.accs ∧ (voteA s m).phase = s.phase ∧ (voteA s m).reps = s.reps := by
      unfold voteA
      cases decide ((castR s.view s.box ⟨m.src, m.cut⟩).2 = 0)
      · exact ⟨hu, rfl, rfl, rfl⟩
      · exact ⟨⟨hu.dec, hu.prop, hu.pro, hu.ar, hu.accs, hu.rk, hu.wait⟩, rfl, rfl, rfl⟩
    obtain ⟨k1, k2, k3, k4⟩ := key
    simp only []
    rw [k2, k3, k4]
    exact ⟨k1, (fun p hp => by cases hp), fun _ h => h, fun e => by omega, fun e => by omega, fun h => h, fun _ h => .inr h⟩
  · exfalso
    obtain ⟨_, ho⟩ := (vm_body hm).2.1 hk
    rcases hM with h | h
    · omega
    · rw [h.2.2, hown] at ho
      exact hs ho.symm
  · rw [if_neg (by omega), if_neg (by omega), if_pos hk]
    have hb : m.rank = ρ := by
      rcases hM with h | h
      · omega
      · exact h.2.2
    rcases hu.ar with ⟨hp1, ha0⟩ | ⟨hp2, hh⟩
    · have hA2 := aw_rep hA hm hk hp1
      obtain ⟨a1, a2, a3⟩ := uc_adv (w := w) hA2 hu.dec hu.prop hu.pro ha0 hu.accs hu.rk hp1 hu.wait hr
      have hadd : has (addR s.view s.reps ⟨m.src, m.last, m.cut⟩).1 m.src := add_has hA.reps (vr_msg hm hk)
      have hold : ∀ x, has s.reps x → has (addR s.view s.reps ⟨m.src, m.last, m.cut⟩).1 x := fun x ⟨y, hy, e⟩ => ⟨y, add_sub hA.reps hy, e⟩
      have hrA := (ok_adv hA2).2.2.2.2.2
      unfold promA
      have hc : (!decide (s.phase = 1) || !decide (m.rank = s.rank)) = false := by
        rw [hp1, hb, hu.rk]
        simp
      rw [hc]
      simp only [cond_false]
      have hR : ∀ x, has (addR s.view s.reps ⟨m.src, m.last, m.cut⟩).1 x → (advA { s with reps := (addR s.view s.reps ⟨m.src, m.last, m.cut⟩).1 }).phase = 2 ∨ has (advA { s with reps := (addR s.view s.reps ⟨m.src, m.last, m.cut⟩).1 }).reps x := fun x h => by
        rcases a3 with e | e
        · rw [e]
          exact .inr h
        · exact .inl e
      refine ⟨a1, fun p hp => ?_, a2, fun _ => hR _ hadd, fun e => by omega, fun e => by omega, fun x h => hR x (hold x h)⟩
      generalize advA { s with reps := (addR s.view s.reps ⟨m.src, m.last, m.cut⟩).1 } = A at *
      cases hd : decide (A.phase = 2)
      · rw [hd] at hp
        cases hp
      · rw [hd] at hp
        simp only [cond_true, List.mem_singleton] at hp
        subst hp
        exact .inr ⟨trivial, (by show (4 : Int) ≠ 6; omega), a1.rk⟩
    · have e : promA s m = (s, []) := by
        unfold promA
        rw [hp2]
        rfl
      rw [e]
      exact ⟨hu, (fun p hp => by cases hp), fun _ h => h, fun _ => .inl hp2, fun e => by omega, fun h => h, fun _ h => .inr h⟩
  · exfalso
    obtain ⟨_, ho, _⟩ := (vm_body hm).2.2.2.1 hk
    rcases hM with h | h
    · omega
    · rw [h.2.2, hown] at ho
      exact hs ho.symm
  · rw [if_neg (by omega), if_neg (by omega), if_neg (by omega), if_neg (by omega), if_pos hk]
    obtain ⟨hp5, hc5⟩ := (vm_body hm).2.2.2.2 hk
    have hb : m.rank = ρ := by
      rcases hM with h | h
      · omega
      · exact h.2.2
    rw [hb]
    have v1 : vrB s.view ⟨m.src, ρ, m.cut⟩ = true := vr_mk (vm_view hm).1 hr hc5
    refine ⟨⟨hu.dec, hu.prop, hu.pro, ?_, ent_rank (P := fun x => x = ρ) hu.accs rfl, hu.rk, hu.wait⟩, (fun p hp => by cases hp), fun x h => ent_old hA.accs h, fun e => by omega, fun _ => ent_new hA.accs v1, fun h => h, fun _ h => .inr h⟩
    rcases hu.ar with h | h
    · exact .inl h
    · exact .inr ⟨h.1, ent_old hA.accs h.2⟩
  · rcases hM with h | h
    · omega
    · exact absurd hk h.2.1
end
end Go.Proofs.Ytmbniilpgbjcfaa

set_option maxRecDepth 100000
namespace Go.Proofs.Ytmbniilpgbjcfaa
open Go.Lift
theorem tick_eq {s : Agr} (hA : AW s) (hf : few s) (hd : s.dec = []) : tickA s = endA (stepA s) (rsdA (stepA s)) := by
  have hb : agrB s = true := (agr_iff s).2 ⟨hA, hf⟩
  unfold tickA
  rw [if_neg (by rw [hb]; simp), if_neg (by rw [hd]; simp)]
theorem tick_tell {s : Agr} (hA : AW s) (hf : few s) (h : (tickA s).1.dec ≠ []) : ∃ p ∈ (tickA s).2, p.to = 0 ∧ p.m.kind = 6 ∧ p.m.src = s.self := by
  by_cases hd : s.dec = []
  · rw [tick_eq hA hf hd] at h ⊢
    have hs := (ok_step hA hf).2.2.2
    unfold endA at h ⊢
    cases hc : decide (((stepA s).dec.length : Int) = 0) && decide (0 < ((decR (stepA s)).length : Int))
    · rw [hc] at h
      have hsd : (stepA s).dec = [] := by
        have hw := wait_in hA
        have hA2 := aw_wait hA hw.1 hw.2
        unfold stepA
        split
        · split
          · rcases att_cases hA2 with e | ⟨h1, h2, h3, e⟩
            · rw [e]
              exact hd
            · rw [e]
              by_cases hp : s.prop = []
              · rename_i h6 _
                exact absurd hp (len1.1 h6)
              · rw [(ok_adv (aw_att hA2 hp h1 h2 h3)).2.2.2.2.1]
                exact hd
          · exact hd
        · exact hd
      exact absurd hsd h
    · refine ⟨pktOf (stepA s) 0 6 0 0 (decR (stepA s)), by simp, rfl, rfl, hs⟩
  · have hb : agrB s = true := (agr_iff s).2 ⟨hA, hf⟩
    unfold tickA
    rw [if_neg (by rw [hb]; simp), if_pos (len1.2 hd)]
    exact ⟨_, List.mem_singleton.2 rfl, rfl, rfl, rfl⟩
theorem tick_keep {s : Agr} (hA : AW s) (hf : few s) (h : s.dec ≠ []) : (tickA s).1 = s := by
  have hb : agrB s = true := (agr_iff s).2 ⟨hA, hf⟩
  unfold tickA
  rw [if_neg (by rw [hb]; simp), if_pos (len1.2 h)]
theorem all_dec {s : Agr} {ρ : Int} (hA : AW s) (hρ : 0 < ρ) (hr : ∀ x ∈ s.accs, x.rank = ρ) (hc : ∀ x ∈ s.accs, ∀ y ∈ s.accs, x.cut = y.cut) (hl : majB s.view.mem.length ≤ (s.accs.length : Int)) : decR s ≠ [] := by
  unfold decR
  cases hw : (winR s.view s.box).2
  · simp only [cond_false]
    unfold accdR
    have hv : ∀ r ∈ s.accs, vA s.accs r s.accs.length = s.accs.length := fun r hr2 => by
      unfold vA
      rw [List.take_length]
      rw [List.filter_eq_self.2]
      intro x hx
      rw [hr x hx, hr r hr2, hc x hx r hr2, sameI_refl]
      simp
    have hm1 : 1 ≤ majB s.view.mem.length := by
      rw [maj_n hA.v]
      omega
    have key : ∀ i, i ≤ s.accs.length → 0 < i → (accAt s.accs (majB s.view.mem.length) i).1 = ρ ∧ ∃ r ∈ s.accs, (accAt s.accs (majB s.view.mem.length) i).2 = r.cut := by
      intro i
      induction i with
      | zero => intro _ h; omega
      | succ i ih =>
        intro hi _
        have hg : s.accs.getD i rpt0 = s.accs[i] := by simp [show i < s.accs.length by omega]
        have hm := List.getElem_mem (show i < s.accs.length by omega)
        unfold accAt
        rw [hg, hv _ hm, decide_eq_true hl, hr _ hm, Bool.true_and]
        by_cases h0 : i = 0
        · subst h0
          have : decide ((accAt s.accs (majB s.view.mem.length) 0).1 < ρ) = true := decide_eq_true hρ
          rw [this]
          exact ⟨rfl, _, hm, rfl⟩
        · obtain ⟨e1, e2⟩ := ih (by omega) (by omega)
          rw [e1, decide_eq_false (Int.lt_irrefl _)]
          exact ⟨e1, e2⟩
    obtain ⟨_, r, hrm, e⟩ := key s.accs.length (Nat.le_refl _) (by omega)
    rw [e]
    have h1 := hr r hrm
    rcases vr_cut (((reps_iff hA.v).1 hA.accs).1 r hrm) with h2 | h2
    · omega
    · exact app_ne h2.2
  · obtain ⟨x, hx, e⟩ := win_mem hw
    simp only [cond_true]
    rw [← e]
    exact app_ne (((box_iff hA.v).1 hA.box).1 x hx).2
theorem end_all {s : Agr} (hd : s.dec = []) (h : decR s ≠ []) (ps : List Pkt) : (endA s ps).1.dec ≠ [] := by
  unfold endA
  rw [len0.2 hd, len1.2 h]
  exact h
section
variable {b : Prop} {ρ w : Int} {s : Agr}
theorem due_no (hA : AW s) (hw : s.wait = w) (hw0 : 0 ≤ w) (hw1 : w ≤ 1000) {k : Nat} (hk : placeB s.view.mem s.self = (k : Int)) (hk16 : k ≤ 16) (hn : w + 1 < 8 + 6 * (k : Int)) : waitA s = w + 1 ∧ dueB s = false := by
  have e1 : waitA s = w + 1 := by
    unfold waitA
    rw [hw, wrap_i64 (by omega) (by omega), if_neg (by omega)]
  refine ⟨e1, ?_⟩
  unfold dueB
  rw [e1, hk, wrap_i64 (n := 6 * (k : Int)) (by omega) (by omega), wrap_i64 (by omega) (by omega)]
  exact decide_eq_false (by omega)
theorem due_yes (hA : AW s) (hw : s.wait = w) (hw0 : 0 ≤ w) (hw1 : w ≤ 1000) {k : Nat} (hk : placeB s.view.mem s.self = (k : Int)) (hk16 : k ≤ 16) (hn : 8 + 6 * (k : Int) ≤ w + 1) : waitA s = w + 1 ∧ dueB s = true := by
  have e1 : waitA s = w + 1 := by
    unfold waitA
    rw [hw, wrap_i64 (by omega) (by omega), if_neg (by omega)]
  refine ⟨e1, ?_⟩
  unfold dueB
  rw [e1, hk, wrap_i64 (n := 6 * (k : Int)) (by omega) (by omega), wrap_i64 (by omega) (by omega)]
  exact decide_eq_true (by omega)
theorem step_not (hA : AW s) (hp : s.prop ≠ []) (h : dueB s = false) : stepA s = { s with wait := waitA s } := by
  unfold stepA
  rw [if_pos (len1.2 hp), if_neg (by rw [h]; simp)]
theorem step_yes (hA : AW s) (hp : s.prop ≠ []) (h : dueB s = true) : stepA s = attA { s with wait := waitA s } := by
  unfold stepA
  rw [if_pos (len1.2 hp), if_pos h]
theorem rsd_mo (ha : ∀ x ∈ s.accs, b ∧ x.rank = ρ) (hp : s.phase = 0 ∨ b ∧ s.rank = ρ) : ∀ p ∈ rsdA s, MO b ρ p.m := by
  intro p hx
  unfold rsdA at hx
  rw [List.mem_append, List.mem_append] at hx
  rcases hx with (hx | hx) | hx
  · unfold sndV at hx
    cases hc : (cutOf s.box s.self).2
    · rw [hc] at hx
      cases hx
    · rw [hc] at hx
      rw [List.mem_singleton.1 hx]
      exact .inl rfl
  · unfold sndP at hx
    cases h1 : decide (s.phase = 1)
    · cases h2 : decide (s.phase = 2)
      · rw [h1, h2] at hx
        cases hx
      · rw [h1, h2] at hx
        have h2 := of_decide_eq_true h2
        rw [List.mem_singleton.1 hx]
        rcases hp with hp | hp
        · omega
        · exact .inr ⟨hp.1, (by show (4 : Int) ≠ 6; omega), hp.2⟩
    · rw [h1] at hx
      have h1 := of_decide_eq_true h1
      rw [List.mem_singleton.1 hx]
      rcases hp with hp | hp
      · omega
      · exact .inr ⟨hp.1, (by show (2 : Int) ≠ 6; omega), hp.2⟩
  · unfold sndA at hx
    cases hb : decide (0 ≤ ofB s.accs s.self) && !decide (s.phase = 2)
    · rw [hb] at hx
      cases hx
    · rw [hb] at hx
      obtain ⟨_, hk⟩ := ofr_ix ((Bool.and_eq_true ..).mp hb).1
      have hm : s.accs.getD (ofB s.accs s.self).toNat rpt0 ∈ s.accs := by simp [hk]
      generalize s.accs.getD (ofB s.accs s.self).toNat rpt0 = r at *
      rw [List.mem_singleton.1 hx]
      have := ha r hm
      exact .inr ⟨this.1, (by show (5 : Int) ≠ 6; omega), this.2⟩
theorem rsd_two (h : s.phase = 1) : pktOf s 0 2 s.rank 0 [] ∈ rsdA s := by
  unfold rsdA sndP
  rw [decide_eq_true h]
  simp
theorem rsd_four (h : s.phase = 2) : pktOf s 0 4 s.rank 0 s.cho ∈ rsdA s := by
  unfold rsdA sndP
  rw [decide_eq_true h, decide_eq_false (show ¬ s.phase = 1 by omega)]
  simp
theorem uo_tick (hA : AW s) (hf : few s) (hu : UO b ρ w s) (hw0 : 0 ≤ w) (hw1 : w ≤ 1000) {k : Nat} (hk : placeB s.view.mem s.self = (k : Int)) (hk16 : k ≤ 16) (hn : w + 1 < 8 + 6 * (k : Int)) :
    (tickA s).1.dec ≠ [] ∨ (UO b ρ (w + 1) (tickA s).1 ∧ (tickA s).1.accs = s.accs ∧ (∀ p ∈ (tickA s).2, MO b ρ p.m) ∧ decR s = []) := by
  obtain ⟨e1, e2⟩ := due_no hA hu.wait hw0 hw1 hk hk16 hn
  rw [tick_eq hA hf hu.dec, step_not hA hu.prop e2, e1]
  by_cases hdr : decR s = []
  · right
    have e3 : endA { s with wait := w + 1 } (rsdA { s with wait := w + 1 }) = ({ s with wait := w + 1 }, rsdA { s with wait := w + 1 }) := by
      unfold endA
      have e4 : decR { s with wait := w + 1 } = decR s := rfl
      rw [e4, hdr]
      simp
    rw [e3]
    exact ⟨⟨hu.dec, hu.prop, hu.pro, hu.ar, hu.accs, hu.rk, hu.ph, rfl⟩, rfl, rsd_mo (s := { s with wait := w + 1 }) hu.accs (.inl hu.ph), hdr⟩
  · left
    exact end_all (s := { s with wait := w + 1 }) hu.dec hdr _
theorem uc_tick (hA : AW s) (hf : few s) (hu : UC ρ w s) (hw0 : 0 ≤ w) (hw1 : w + 1 < 8) {k : Nat} (hk : placeB s.view.mem s.self = (k : Int)) (hk16 : k ≤ 16) :
    (tickA s).1.dec ≠ [] ∨ (UC ρ (w + 1) (tickA s).1 ∧ (tickA s).1.accs = s.accs ∧ (tickA s).1.phase = s.phase ∧ (tickA s).1.reps = s.reps ∧ (∀ p ∈ (tickA s).2, MO True ρ p.m) ∧ (s.phase = 1 → ∃ p ∈ (tickA s).2, p.to = 0 ∧ p.m.kind = 2 ∧ p.m.src = s.self) ∧ (s.phase = 2 → ∃ p ∈ (tickA s).2, p.to = 0 ∧ p.m.kind = 4 ∧ p.m.src = s.self) ∧ decR s = []) := by
  obtain ⟨e1, e2⟩ := due_no hA hu.wait hw0 (by omega) hk hk16 (by omega)
  rw [tick_eq hA hf hu.dec, step_not hA hu.prop e2, e1]
  by_cases hdr : decR s = []
  · right
    have e3 : endA { s with wait := w + 1 } (rsdA { s with wait := w + 1 }) = ({ s with wait := w + 1 }, rsdA { s with wait := w + 1 }) := by
      unfold endA
      have e4 : decR { s with wait := w + 1 } = decR s := rfl
      rw [e4, hdr]
      simp
    rw [e3]
    refine ⟨⟨hu.dec, hu.prop, hu.pro, hu.ar, hu.accs, hu.rk, rfl⟩, rfl, rfl, rfl, rsd_mo (s := { s with wait := w + 1 }) (fun x hx => ⟨trivial, hu.accs x hx⟩) (.inr ⟨trivial, hu.rk⟩), fun h => ⟨_, rsd_two (s := { s with wait := w + 1 }) h, rfl, rfl, rfl⟩, fun h => ⟨_, rsd_four (s := { s with wait := w + 1 }) h, rfl, rfl, rfl⟩, hdr⟩
  · left
    exact end_all (s := { s with wait := w + 1 }) hu.dec hdr _
end
theorem att_first {s : Agr} (h1 : s.rank = 0) (h2 : s.acc.pro = 0) (h3 : 1 ≤ s.self) (h4 : s.self ≤ 1000) : attRank s = 1024 + s.self := by
  unfold attRank
  rw [h1, h2]
  have e : IntKind.i64.wrap ((if IntKind.i64.wrap (Int.tdiv 0 1024) < IntKind.i64.wrap (Int.tdiv 0 1024) then IntKind.i64.wrap (Int.tdiv 0 1024) else IntKind.i64.wrap (Int.tdiv 0 1024)) + 1) = 1 := by decide
  rw [e, rankOf_in (by omega) (by omega) h3 h4]
  omega
theorem uo_start {s : Agr} {ρ w : Int} (hA : AW s) (hf : few s) (hu : UO False ρ w s) (hw0 : 0 ≤ w) (hw1 : w ≤ 1000) {k : Nat} (hk : placeB s.view.mem s.self = (k : Int)) (hk16 : k ≤ 16) (hn : 8 + 6 * (k : Int) ≤ w + 1) (hρ : ρ = 1024 + s.self) :
    (tickA s).1.dec ≠ [] ∨ (UC ρ 0 (tickA s).1 ∧ (∀ p ∈ (tickA s).2, MO True ρ p.m) ∧ ((tickA s).1.phase = 1 → ∃ p ∈ (tickA s).2, p.to = 0 ∧ p.m.kind = 2 ∧ p.m.src = s.self) ∧ ((tickA s).1.phase = 2 → ∃ p ∈ (tickA s).2, p.to = 0 ∧ p.m.kind = 4 ∧ p.m.src = s.self)) := by
  obtain ⟨e1, e2⟩ := due_yes hA hu.wait hw0 hw1 hk hk16 hn
  have hself := acc_in hA.v hA.self
  have hpro0 : s.acc.pro = 0 := hu.pro.resolve_right (fun h => h.1)
  have har0 : s.acc.rank = 0 := hu.ar.resolve_right (fun h => h.1)
  have hacc0 : s.accs = [] := by
    cases hac : s.accs with
    | nil => rfl
    | cons x l => exact absurd (hu.accs x (by rw [hac]; exact List.mem_cons_self ..)).1 id
  have hA2 := aw_wait hA (w := w + 1) (by omega) (by omega)
  have har : attRank { s with wait := w + 1 } = ρ := by
    rw [hρ]
    exact att_first (s := { s with wait := w + 1 }) hu.rk hpro0 hself.1 hself.2
  rw [tick_eq hA hf hu.dec, step_yes hA hu.prop e2, e1]
  obtain ⟨hp, ho⟩ := att_own hA2 (by rw [har]; omega)
  have hr : usableB ρ = true := by
    have := (proper_use hp).1
    rw [har] at this
    exact this
  have hprep : (prepR ({ s with wait := w + 1 } : Agr).acc ρ) = (⟨ρ, s.acc.rank, s.acc.cut⟩, ⟨0, s.acc.rank, s.acc.cut⟩, true) := by
    unfold prepR
    show (bif !accB s.acc then _ else bif !usableB ρ || decide (ρ < s.acc.pro) then _ else _) = _
    rw [hA.acc, hr, decide_eq_false (by omega)]
    rfl
  have eatt : attA { s with wait := w + 1 } = advA (attS { s with wait := w + 1 }) := by
    unfold attA
    rw [har, hprep, decide_eq_false (show ¬ ρ = 0 by omega)]
    unfold attS
    rw [har]
    rfl
  rw [eatt]
  have hAS := aw_att hA2 hu.prop (by rw [har] at hp ⊢; exact hp) ho (by
    show s.acc.pro ≤ attRank { s with wait := w + 1 }
    rw [har]
    omega)
  obtain ⟨a1, _, a3⟩ := uc_adv (w := 0) (ρ := ρ) hAS hu.dec hu.prop har har0 (fun x hx => by
    have hx : x ∈ s.accs := hx
    rw [hacc0] at hx
    cases hx) har rfl rfl hr
  have hself2 := (ok_adv hAS).2.2.2.1
  generalize advA (attS { s with wait := w + 1 }) = T at *
  rcases end_dec a1.dec (rsdA T) with h | h
  · exact .inl h
  · right
    rw [h]
    refine ⟨a1, rsd_mo (fun x hx => ⟨trivial, a1.accs x hx⟩) (.inr ⟨trivial, a1.rk⟩), fun h1 => ⟨_, rsd_two h1, rfl, rfl, hself2⟩, fun h2 => ⟨_, rsd_four h2, rfl, rfl, hself2⟩⟩
end Go.Proofs.Ytmbniilpgbjcfaa

set_option maxRecDepth 100000
namespace Go.Proofs.Ytmbniilpgbjcfaa
open Go.Lift
def mI (v : View) (i : Nat) : Int := v.mem.getD i 0
theorem mI_mem {v : View} {i : Nat} (h : i < v.mem.length) : mI v i ∈ v.mem := by
  unfold mI
  have : v.mem.getD i 0 = v.mem[i] := by simp [h]
  rw [this]
  exact List.getElem_mem h
theorem pl_mI {v : View} (hv : viewB v = true) {i : Nat} (h : i < v.mem.length) : plN v (mI v i) = i := by
  obtain ⟨h1, _, h3⟩ := pl_at (mI_mem h)
  by_cases e : plN v (mI v i) = i
  · exact e
  · exact absurd h3 (mem_ne hv h1 h e)
theorem pl_int {v : View} (hv : viewB v = true) {i : Nat} (h : i < v.mem.length) : placeB v.mem (mI v i) = (i : Int) := by
  rw [(pl_at (mI_mem h)).2.1, pl_mI hv h]
def Up (v : View) (dn : Nat → Bool) (i : Nat) : Prop := i < v.mem.length ∧ dn i = false
theorem spr_all {v : View} {ps : List Pkt} {p : Pkt} (hp : p ∈ ps) {k : Nat} (hk : k < v.mem.length) (hh : hitB v p k = true) : (⟨mI v k, p.m⟩ : Pkt) ∈ spreadR v ps := by
  have hI : ∀ j, k < j → (⟨mI v k, p.m⟩ : Pkt) ∈ sprI v p j := by
    intro j
    induction j with
    | zero => intro h; omega
    | succ j ih =>
      intro h
      unfold sprI
      by_cases e : k = j
      · subst e
        rw [hh]
        exact List.mem_append_right _ (List.mem_singleton.2 rfl)
      · have := ih (by omega)
        cases hitB v p j
        · exact this
        · exact List.mem_append_left _ this
  obtain ⟨i, hi, rfl⟩ := List.getElem_of_mem hp
  have hA : ∀ j, i < j → (⟨mI v k, ps[i].m⟩ : Pkt) ∈ sprA v ps j := by
    intro j
    induction j with
    | zero => intro h; omega
    | succ j ih =>
      intro h
      unfold sprA
      by_cases e : i = j
      · subst e
        have hg : ps.getD i pkt0 = ps[i] := by simp [hi]
        rw [hg]
        exact List.mem_append_right _ (hI _ hk)
      · exact List.mem_append_left _ (ih (by omega))
  exact hA _ hi
theorem spr_to {v : View} {ps : List Pkt} {p : Pkt} (hp : p ∈ ps) {k : Nat} (hk : k < v.mem.length) (h : p.to = mI v k) : (⟨mI v k, p.m⟩ : Pkt) ∈ spreadR v ps := by
  refine spr_all hp hk ?_
  unfold hitB
  rw [show v.mem.getD k 0 = mI v k from rfl, decide_eq_true h]
  rfl
theorem spr_bc {v : View} {ps : List Pkt} {p : Pkt} (hp : p ∈ ps) {k : Nat} (hk : k < v.mem.length) (h : p.to = 0) (hs : mI v k ≠ p.m.src) : (⟨mI v k, p.m⟩ : Pkt) ∈ spreadR v ps := by
  refine spr_all hp hk ?_
  unfold hitB
  rw [show v.mem.getD k 0 = mI v k from rfl, decide_eq_true h, decide_eq_false hs]
  simp
section
variable {v : View} {dn : Nat → Bool}
theorem tckA_spec {S : List Agr} {N : List Pkt} (hl : S.length = v.mem.length) : ∀ k, k ≤ v.mem.length →
    (tckA v dn (S, N) k).1.length = v.mem.length ∧
    (∀ i, i < v.mem.length → nthA (tckA v dn (S, N) k).1 i = if i < k ∧ dn i = false then (tickA (nthA S i)).1 else nthA S i) ∧
    (∀ q ∈ N, q ∈ (tckA v dn (S, N) k).2) ∧ (∀ i, i < k → dn i = false → ∀ q ∈ spreadR v (tickA (nthA S i)).2, q ∈ (tckA v dn (S, N) k).2) ∧
    (∀ q ∈ (tckA v dn (S, N) k).2, q ∈ N ∨ ∃ i, i < k ∧ dn i = false ∧ q ∈ spreadR v (tickA (nthA S i)).2)
  | 0, _ => ⟨hl, fun i _ => by
      rw [if_neg (fun h => absurd h.1 (Nat.not_lt_zero _))]
      rfl, fun q h => h, fun i h => absurd h (Nat.not_lt_zero _), fun q h => .inl h⟩
  | k + 1, hk => by
    obtain ⟨h1, h2, h3, h4, h5⟩ := tckA_spec hl (N := N) k (by omega)
    unfold tckA
    generalize tckA v dn (S, N) k = y at *
    have hyk : nthA y.1 k = nthA S k := by
      rw [h2 k (by omega), if_neg (fun h => absurd h.1 (Nat.lt_irrefl _))]
    unfold tck
    cases hd : dn k
    · simp only [cond_false]
      rw [hyk]
      refine ⟨by rw [List.length_set]; exact h1, fun i hi => ?_, fun q h => List.mem_append_left _ (h3 q h), fun i hi hdi q hq => ?_, fun q hq => ?_⟩
      · rw [nth_set (by omega)]
        by_cases e : i = k
        · subst e
          rw [if_pos rfl, if_pos ⟨by omega, hd⟩]
        · rw [if_neg e, h2 i hi]
          by_cases h : i < k ∧ dn i = false
          · rw [if_pos h, if_pos ⟨by omega, h.2⟩]
          · rw [if_neg h, if_neg (fun h' => h ⟨by omega, h'.2⟩)]
      · by_cases e : i = k
        · subst e
          exact List.mem_append_right _ hq
        · exact List.mem_append_left _ (h4 i (by omega) hdi q hq)
      · rcases List.mem_append.1 hq with hq | hq
        · rcases h5 q hq with h | ⟨i, hi, hdi, h⟩
          · exact .inl h
          · exact .inr ⟨i, by omega, hdi, h⟩
        · exact .inr ⟨k, by omega, hd, hq⟩
    · simp only [cond_true]
      refine ⟨h1, fun i hi => ?_, h3, fun i hi hdi q hq => ?_, fun q hq => ?_⟩
      · rw [h2 i hi]
        by_cases h : i < k ∧ dn i = false
        · rw [if_pos h, if_pos ⟨by omega, h.2⟩]
        · rw [if_neg h, if_neg (fun h' => h ⟨by
            by_cases e : i = k
            · rw [e, hd] at h'
              cases h'.2
            · omega, h'.2⟩)]
      · by_cases e : i = k
        · rw [e, hd] at hdi
          cases hdi
        · exact h4 i (by omega) hdi q hq
      · rcases h5 q hq with h | ⟨i, hi, hdi, h⟩
        · exact .inl h
        · exact .inr ⟨i, by omega, hdi, h⟩
theorem tck_at {S : List Agr} {N : List Pkt} (hl : S.length = v.mem.length) {i : Nat} (h : Up v dn i) : nthA (tckA v dn (S, N) v.mem.length).1 i = (tickA (nthA S i)).1 := by
  rw [(tckA_spec hl (N := N) v.mem.length (Nat.le_refl _)).2.1 i h.1, if_pos (show i < v.mem.length ∧ dn i = false from h)]
theorem dlvA_dec (hv : viewB v = true) {S : List Agr} {fly : List Pkt} {g : Gh} (h : SI v S fly g) {j : Nat} (hj : Up v dn j) : ∀ i, i ≤ fly.length → ((nthA S j).dec ≠ [] ∨ ∃ f ∈ fly.take i, f.to = mI v j ∧ f.m.kind = 6) → (nthA (dlvA v dn S fly i).1 j).dec ≠ []
  | 0, _, hd => by
    rcases hd with hd | ⟨f, hf, _⟩
    · exact hd
    · simp at hf
  | i + 1, hi, hd => by
    have ih := dlvA_dec hv h hj i (by omega)
    obtain ⟨g', h'⟩ := si_dlvA (dn := dn) hv h i (by omega)
    have hm : fly.getD i pkt0 ∈ fly := by simp [show i < fly.length by omega]
    have hg : fly.getD i pkt0 = fly[i] := by simp [show i < fly.length by omega]
    have hd2 : ((nthA S j).dec ≠ [] ∨ ∃ f ∈ fly.take i, f.to = mI v j ∧ f.m.kind = 6) ∨ ((fly.getD i pkt0).to = mI v j ∧ (fly.getD i pkt0).m.kind = 6) := by
      rcases hd with hd | ⟨f, hf, h1⟩
      · exact .inl (.inl hd)
      · rw [List.take_succ_eq_append_getElem (by omega)] at hf
        rcases List.mem_append.1 hf with hf | hf
        · exact .inl (.inr ⟨f, hf, h1⟩)
        · rw [List.mem_singleton.1 hf] at h1
          rw [hg]
          exact .inr h1
    unfold dlvA
    generalize dlvA v dn S fly i = x at *
    generalize fly.getD i pkt0 = f at *
    obtain ⟨f1, f2, f3, f4⟩ := h'.fl f (List.mem_append_left _ hm)
    obtain ⟨hb, _, hbm⟩ := pl_at f2
    obtain ⟨r1, r2, r3, r4, r5⟩ := h'.st _ hb
    have hs : f.m.src ≠ (nthA x.1 (plN v f.to)).self := by rw [r1, hbm]; exact f3
    have hm2 : vmB (nthA x.1 (plN v f.to)).view f.m = true := by rw [r2]; exact f1
    unfold dlv
    cases hdn : dn (plN v f.to)
    · simp only [cond_false]
      rw [nth_set (by rw [h'.len]; exact hb)]
      by_cases e : j = plN v f.to
      · rw [if_pos e]
        rcases hd2 with hd2 | hd2
        · have := ih hd2
          rw [e] at this
          rw [rec_dec r3 r4 hm2 hs this]
          exact this
        · exact rec_six r3 r4 hm2 hs hd2.2
      · rw [if_neg e]
        rcases hd2 with hd2 | hd2
        · exact ih hd2
        · rw [hd2.1, pl_mI hv hj.1] at e
          exact absurd rfl e
    · simp only [cond_true]
      rcases hd2 with hd2 | hd2
      · exact ih hd2
      · rw [hd2.1, pl_mI hv hj.1, hj.2] at hdn
        cases hdn
def AllD (v : View) (dn : Nat → Bool) (S : List Agr) : Prop := ∀ i, Up v dn i → (nthA S i).dec ≠ []
def OneP (v : View) (dn : Nat → Bool) (S : List Agr) (fly : List Pkt) : Prop := ∃ i, Up v dn i ∧ (nthA S i).dec ≠ [] ∧ ∀ j, j < v.mem.length → j ≠ i → ∃ f ∈ fly, f.to = mI v j ∧ f.m.kind = 6
theorem one_all (hv : viewB v = true) {S : List Agr} {fly : List Pkt} {g : Gh} (h : SI v S fly g) (ho : OneP v dn S fly ∨ AllD v dn S) : AllD v dn (roundR v dn S fly).1 := by
  intro j hj
  obtain ⟨g', h'⟩ := si_dlvA (dn := dn) hv h fly.length (Nat.le_refl _)
  have hd : (nthA (dlvA v dn S fly fly.length).1 j).dec ≠ [] := by
    refine dlvA_dec hv h hj _ (Nat.le_refl _) ?_
    rw [List.take_length]
    rcases ho with ⟨i, hi, h1, h2⟩ | ho
    · by_cases e : j = i
      · rw [e]
        exact .inl h1
      · exact .inr (h2 j hj.1 e)
    · exact .inl (ho j hj)
  unfold roundR
  obtain ⟨r1, r2, r3, r4, r5⟩ := h'.st j hj.1
  rw [tck_at (S := (dlvA v dn S fly fly.length).1) (N := (dlvA v dn S fly fly.length).2) h'.len hj, tick_keep r3 r4 hd]
  exact hd
theorem tck_one {S : List Agr} {N fly : List Pkt} {g : Gh} (h : SI v S (fly ++ N) g) {i : Nat} (hi : Up v dn i) (hd : (tickA (nthA S i)).1.dec ≠ []) (hv : viewB v = true) : OneP v dn (tckA v dn (S, N) v.mem.length).1 (tckA v dn (S, N) v.mem.length).2 := by
  obtain ⟨r1, r2, r3, r4, r5⟩ := h.st i hi.1
  refine ⟨i, hi, by rw [tck_at h.len hi]; exact hd, fun j hj hji => ?_⟩
  obtain ⟨p, hp, p1, p2, p3⟩ := tick_tell r3 r4 hd
  have := spr_bc hp hj p1 (by
    rw [p3, r1]
    exact mem_ne hv hj hi.1 hji)
  exact ⟨_, (tckA_spec h.len (N := N) v.mem.length (Nat.le_refl _)).2.2.2.1 i hi.1 hi.2 _ this, rfl, p2⟩
end
end Go.Proofs.Ytmbniilpgbjcfaa

set_option maxRecDepth 100000
namespace Go.Proofs.Ytmbniilpgbjcfaa
open Go.Lift
section
variable {v : View} {dn : Nat → Bool} {k0 : Nat} {ρ : Int}
def Cls (cf : Nat → Bool) (b : Prop) (ρ w wc : Int) (i : Nat) (s : Agr) : Prop := (cf i = false ∧ UO b ρ w s) ∨ (cf i = true ∧ b ∧ UC ρ wc s)
def Eff (v : View) (dn cf : Nat → Bool) (f : Pkt) (S : List Agr) (N : List Pkt) : Prop := Up v dn (plN v f.to) →
  (f.m.kind = 2 → ∃ q ∈ N, q.to = f.m.src ∧ q.m.kind = 3 ∧ q.m.src = f.to) ∧
  (f.m.kind = 3 → cf (plN v f.to) = true → (nthA S (plN v f.to)).phase = 2 ∨ has (nthA S (plN v f.to)).reps f.m.src) ∧
  (f.m.kind = 4 → ∀ i, i < v.mem.length → i ≠ plN v f.to → ∃ q ∈ N, q.to = mI v i ∧ q.m.kind = 5 ∧ q.m.src = f.to) ∧
  (f.m.kind = 5 → has (nthA S (plN v f.to)).accs f.m.src)
structure Mono (cf : Nat → Bool) (S : List Agr) (N : List Pkt) (S' : List Agr) (N' : List Pkt) : Prop where
  fl : ∀ q ∈ N, q ∈ N'
  ac : ∀ i x, has (nthA S i).accs x → has (nthA S' i).accs x
  ph : ∀ i, cf i = true → (nthA S i).phase = 2 → (nthA S' i).phase = 2
  rp : ∀ i x, cf i = true → has (nthA S i).reps x → (nthA S' i).phase = 2 ∨ has (nthA S' i).reps x
theorem mono_refl (cf : Nat → Bool) (S : List Agr) (N : List Pkt) : Mono cf S N S N := ⟨fun _ h => h, fun _ _ h => h, fun _ _ h => h, fun _ _ _ h => .inr h⟩
theorem eff_mono {cf : Nat → Bool} {f : Pkt} {S S' : List Agr} {N N' : List Pkt} (h : Eff v dn cf f S N) (hm : Mono cf S N S' N') : Eff v dn cf f S' N' := fun hu => by
  obtain ⟨h1, h2, h3, h4⟩ := h hu
  refine ⟨fun e => ?_, fun e c => ?_, fun e i hi hn => ?_, fun e => hm.ac _ _ (h4 e)⟩
  · obtain ⟨q, hq, r⟩ := h1 e
    exact ⟨q, hm.fl q hq, r⟩
  · rcases h2 e c with h | h
    · exact .inl (hm.ph _ c h)
    · exact hm.rp _ _ c h
  · obtain ⟨q, hq, r⟩ := h3 e i hi hn
    exact ⟨q, hm.fl q hq, r⟩
theorem mono_trans {cf : Nat → Bool} {S S' S'' : List Agr} {N N' N'' : List Pkt} (h : Mono cf S N S' N') (h' : Mono cf S' N' S'' N'') : Mono cf S N S'' N'' :=
  ⟨fun q x => h'.fl q (h.fl q x), fun i x y => h'.ac i x (h.ac i x y), fun i c y => h'.ph i c (h.ph i c y), fun i x c y => by
    rcases h.rp i x c y with y | y
    · exact .inl (h'.ph i c y)
    · exact h'.rp i x c y⟩
def One (v : View) (dn : Nat → Bool) (S : List Agr) : Prop := ∃ i, Up v dn i ∧ (nthA S i).dec ≠ []
structure Hyp (v : View) (dn : Nat → Bool) (k0 : Nat) (ρ : Int) (cf : Nat → Bool) : Prop where
  hv : viewB v = true
  use : usableB ρ = true
  own : ownerOf ρ = mI v k0
  cf : ∀ i, cf i = true → i = k0
theorem dlv_und {cf : Nat → Bool} {b : Prop} {w wc : Int} (H : Hyp v dn k0 ρ cf) {S : List Agr} {N fly : List Pkt} {g : Gh} (h : SI v S (fly ++ N) g) {f : Pkt} (hf : f ∈ fly)
    (hC : ∀ i, Up v dn i → Cls cf b ρ w wc i (nthA S i)) (hN : ∀ q ∈ N, MO b ρ q.m) (hM : MO b ρ f.m) :
    One v dn (dlv v dn (S, N) f).1 ∨ ((∀ i, Up v dn i → Cls cf b ρ w wc i (nthA (dlv v dn (S, N) f).1 i)) ∧ (∀ q ∈ (dlv v dn (S, N) f).2, MO b ρ q.m) ∧ Eff v dn cf f (dlv v dn (S, N) f).1 (dlv v dn (S, N) f).2 ∧ Mono cf S N (dlv v dn (S, N) f).1 (dlv v dn (S, N) f).2) := by
  obtain ⟨f1, f2, f3, f4⟩ := h.fl f (List.mem_append_left _ hf)
  obtain ⟨hb, _, hbm⟩ := pl_at f2
  obtain ⟨r1, r2, r3, r4, r5⟩ := h.st _ hb
  have hs : f.m.src ≠ (nthA S (plN v f.to)).self := by rw [r1, hbm]; exact f3
  have hm2 : vmB (nthA S (plN v f.to)).view f.m = true := by rw [r2]; exact f1
  have hself : (nthA S (plN v f.to)).self = f.to := r1.trans hbm
  have hsrc := in_mem (vm_view f1).1
  have hpos := use_pos H.use
  unfold dlv
  cases hdn : dn (plN v f.to)
  · simp only [cond_false]
    have hu : Up v dn (plN v f.to) := ⟨hb, hdn⟩
    have hl : plN v f.to < S.length := by rw [h.len]; exact hb
    have hd : (nthA S (plN v f.to)).dec = [] := by
      rcases hC _ hu with ⟨_, h⟩ | ⟨_, _, h⟩
      · exact h.dec
      · exact h.dec
    obtain ⟨e1, e2⟩ := rec_eq r3 r4 hm2 hs hd
    have hdA : (actA (nthA S (plN v f.to)) f.m).1.dec = [] ∨ (actA (nthA S (plN v f.to)) f.m).1.dec ≠ [] := Classical.em _
    rw [e1, e2]
    by_cases hE : (endA (actA (nthA S (plN v f.to)) f.m).1 (actA (nthA S (plN v f.to)) f.m).2).1.dec = []
    · right
      rcases hC _ hu with ⟨hc, hU⟩ | ⟨hc, hbb, hU⟩
      · obtain ⟨a1, a2, a3, a4, a5, a6⟩ := uo_act r3 hU hm2 hM H.use (fun k e => by
          have hA := f4.k4 (.inl k)
          have hA2 := r5.ac.pos (by omega)
          rw [e] at hA2
          have hrk : f.m.rank = ρ := by
            rcases hM with h | h
            · omega
            · exact h.2.2
          rw [hrk] at hA
          exact h.inv.c1 _ _ _ (h.inv.a1 _ _ _ hA2).1 (h.inv.a1 _ _ _ hA).1)
        have ee : endA (actA (nthA S (plN v f.to)) f.m).1 (actA (nthA S (plN v f.to)) f.m).2 = ((actA (nthA S (plN v f.to)) f.m).1, (actA (nthA S (plN v f.to)) f.m).2) := by
          rcases end_dec a1.dec (actA (nthA S (plN v f.to)) f.m).2 with e | e
          · exact absurd hE e
          · exact e
        rw [ee]
        generalize actA (nthA S (plN v f.to)) f.m = X at *
        refine ⟨fun i hi => ?_, fun q hq => ?_, fun _ => ⟨fun k => ?_, fun k c => ?_, fun k i hi hne => ?_, fun k => ?_⟩, ⟨fun q hq => List.mem_append_left _ hq, fun i x hx => ?_, fun i c hp => ?_, fun i x c hx => ?_⟩⟩
        · rw [nth_set hl]
          by_cases e : i = plN v f.to
          · rw [if_pos e]
            exact .inl ⟨by rw [e]; exact hc, a1⟩
          · rw [if_neg e]
            exact hC i hi
        · rcases List.mem_append.1 hq with hq | hq
          · exact hN q hq
          · obtain ⟨p, hp, e, _⟩ := spr_mem hq
            rw [e]
            exact a2 p hp
        · obtain ⟨l, c, hp⟩ := a4 k
          obtain ⟨z1, _, z3⟩ := pl_at hsrc
          have := spr_to hp (k := plN v f.m.src) z1 (show f.m.src = mI v (plN v f.m.src) from z3.symm)
          exact ⟨_, List.mem_append_right _ this, z3, rfl, hself⟩
        · rw [hc] at c
          cases c
        · obtain ⟨_, _, c, hp⟩ := a5 k
          have := spr_bc hp hi rfl (by
            show mI v i ≠ (nthA S (plN v f.to)).self
            rw [r1]
            exact mem_ne H.hv hi hb hne)
          exact ⟨_, List.mem_append_right _ this, rfl, rfl, hself⟩
        · rw [nth_set hl, if_pos rfl]
          exact a6 k
        · rw [nth_set hl]
          by_cases e : i = plN v f.to
          · rw [if_pos e]
            rw [e] at hx
            exact a3 x hx
          · rw [if_neg e]
            exact hx
        · rw [nth_set hl]
          by_cases e : i = plN v f.to
          · rw [e, hc] at c
            cases c
          · rw [if_neg e]
            exact hp
        · rw [nth_set hl]
          by_cases e : i = plN v f.to
          · rw [e, hc] at c
            cases c
          · rw [if_neg e]
            exact .inr hx
      · have hown : ownerOf ρ = (nthA S (plN v f.to)).self := by
          rw [H.own, r1, H.cf _ hc]
          rfl
        have hM' : MO True ρ f.m := by
          rcases hM with h | h
          · exact .inl h
          · exact .inr ⟨trivial, h.2⟩
        obtain ⟨a1, a2, a3, a4, a5, a6, a7⟩ := uc_act r3 hU hm2 hs hM' H.use hown
        have ee : endA (actA (nthA S (plN v f.to)) f.m).1 (actA (nthA S (plN v f.to)) f.m).2 = ((actA (nthA S (plN v f.to)) f.m).1, (actA (nthA S (plN v f.to)) f.m).2) := by
          rcases end_dec a1.dec (actA (nthA S (plN v f.to)) f.m).2 with e | e
          · exact absurd hE e
          · exact e
        have hno : f.m.kind ≠ 2 ∧ f.m.kind ≠ 4 := by
          have hrk : f.m.kind ≠ 1 → f.m.rank = ρ := fun k => by
            rcases hM with h | h
            · exact absurd h k
            · exact h.2.2
          refine ⟨fun k => ?_, fun k => ?_⟩
          · have := ((vm_body f1).2.1 k).2
            rw [hrk (by omega), hown] at this
            exact hs this.symm
          · have := ((vm_body f1).2.2.2.1 k).2.1
            rw [hrk (by omega), hown] at this
            exact hs this.symm
        rw [ee]
        generalize actA (nthA S (plN v f.to)) f.m = X at *
        refine ⟨fun i hi => ?_, fun q hq => ?_, fun _ => ⟨fun k => absurd k hno.1, fun k c => ?_, fun k => absurd k hno.2, fun k => ?_⟩, ⟨fun q hq => List.mem_append_left _ hq, fun i x hx => ?_, fun i c hp => ?_, fun i x c hx => ?_⟩⟩
        · rw [nth_set hl]
          by_cases e : i = plN v f.to
          · rw [if_pos e]
            exact .inr ⟨by rw [e]; exact hc, hbb, a1⟩
          · rw [if_neg e]
            exact hC i hi
        · rcases List.mem_append.1 hq with hq | hq
          · exact hN q hq
          · obtain ⟨p, hp, e, _⟩ := spr_mem hq
            rw [e]
            rcases a2 p hp with h | h
            · exact .inl h
            · exact .inr ⟨hbb, h.2⟩
        · rw [nth_set hl, if_pos rfl]
          exact a4 k
        · rw [nth_set hl, if_pos rfl]
          exact a5 k
        · rw [nth_set hl]
          by_cases e : i = plN v f.to
          · rw [if_pos e]
            rw [e] at hx
            exact a3 x hx
          · rw [if_neg e]
            exact hx
        · rw [nth_set hl]
          by_cases e : i = plN v f.to
          · rw [if_pos e]
            rw [e] at hp
            exact a6 hp
          · rw [if_neg e]
            exact hp
        · rw [nth_set hl]
          by_cases e : i = plN v f.to
          · rw [if_pos e]
            rw [e] at hx
            exact a7 x hx
          · rw [if_neg e]
            exact .inr hx
    · left
      exact ⟨_, hu, by rw [nth_set hl, if_pos rfl]; exact hE⟩
  · simp only [cond_true]
    right
    refine ⟨hC, hN, fun hu => ?_, mono_refl cf S N⟩
    rw [hu.2] at hdn
    cases hdn
theorem dlvA_und {cf : Nat → Bool} {b : Prop} {w wc : Int} (H : Hyp v dn k0 ρ cf) {S : List Agr} {fly : List Pkt} {g : Gh} (h : SI v S fly g)
    (hC : ∀ i, Up v dn i → Cls cf b ρ w wc i (nthA S i)) (hM : ∀ q ∈ fly, MO b ρ q.m) : ∀ k, k ≤ fly.length →
    One v dn (dlvA v dn S fly k).1 ∨ ((∀ i, Up v dn i → Cls cf b ρ w wc i (nthA (dlvA v dn S fly k).1 i)) ∧ (∀ q ∈ (dlvA v dn S fly k).2, MO b ρ q.m) ∧ (∀ f ∈ fly.take k, Eff v dn cf f (dlvA v dn S fly k).1 (dlvA v dn S fly k).2) ∧ Mono cf S [] (dlvA v dn S fly k).1 (dlvA v dn S fly k).2)
  | 0, _ => .inr ⟨hC, (fun q hq => by cases hq), (fun f hf => by simp at hf), mono_refl cf S []⟩
  | k + 1, hk => by
    obtain ⟨g', h'⟩ := si_dlvA (dn := dn) H.hv h k (by omega)
    have hm : fly.getD k pkt0 ∈ fly := by simp [show k < fly.length by omega]
    have hg : fly.getD k pkt0 = fly[k] := by simp [show k < fly.length by omega]
    have hts : fly.take (k + 1) = fly.take k ++ [fly.getD k pkt0] := by rw [List.take_succ_eq_append_getElem (by omega), hg]
    rcases dlvA_und H h hC hM k (by omega) with ⟨i, hi, hd⟩ | ⟨c1, c2, c3, c4⟩
    · left
      have hdk := dlvA_dec (dn := dn) H.hv h hi (k + 1) hk
      refine ⟨i, hi, ?_⟩
      unfold dlvA
      obtain ⟨f1, f2, f3, f4⟩ := h'.fl _ (List.mem_append_left _ hm)
      obtain ⟨hb, _, hbm⟩ := pl_at f2
      obtain ⟨r1, r2, r3, r4, r5⟩ := h'.st _ hb
      generalize dlvA v dn S fly k = x at *
      generalize fly.getD k pkt0 = f at *
      unfold dlv
      cases hdn : dn (plN v f.to)
      · simp only [cond_false]
        rw [nth_set (by rw [h'.len]; exact hb)]
        by_cases e : i = plN v f.to
        · rw [if_pos e]
          rw [e] at hd
          rw [rec_dec r3 r4 (by rw [r2]; exact f1) (by rw [r1, hbm]; exact f3) hd]
          exact hd
        · rw [if_neg e]
          exact hd
      · exact hd
    · have := dlv_und (dn := dn) (cf := cf) (b := b) (w := w) (wc := wc) H h' hm c1 c2 (hM _ hm)
      unfold dlvA
      rw [hts]
      generalize dlvA v dn S fly k = x at *
      generalize fly.getD k pkt0 = f at *
      rcases this with h1 | ⟨d1, d2, d3, d4⟩
      · exact .inl h1
      · right
        refine ⟨d1, d2, fun q hq => ?_, mono_trans c4 d4⟩
        rcases List.mem_append.1 hq with hq | hq
        · exact eff_mono (c3 q hq) d4
        · rw [List.mem_singleton.1 hq]
          exact d3
end
end Go.Proofs.Ytmbniilpgbjcfaa

set_option maxRecDepth 100000
namespace Go.Proofs.Ytmbniilpgbjcfaa
open Go.Lift
section
variable {v : View} {dn : Nat → Bool} {k0 : Nat} {ρ : Int}
theorem hyp_off (hv : viewB v = true) (hk : k0 < v.mem.length) (hρ : ρ = 1024 + mI v k0) : Hyp v dn k0 ρ (fun _ => false) ∧ Hyp v dn k0 ρ (fun i => decide (i = k0)) := by
  have hm := acc_in hv (in_of_mem (mI_mem hk))
  have e := rankOf_in (a := 1) (m := mI v k0) (by omega) (by omega) hm.1 hm.2
  have e2 : rankOf 1 (mI v k0) = ρ := by rw [e, hρ]; omega
  obtain ⟨_, _, _, h4, _, _⟩ := rank_own (a := 1) (m := mI v k0) (by rw [e]; omega)
  rw [e2] at h4
  have hu : usableB ρ = true := by
    unfold usableB
    rw [h4, decide_eq_false (by omega)]
    rfl
  exact ⟨⟨hv, hu, h4, fun i h => by cases h⟩, ⟨hv, hu, h4, fun i h => of_decide_eq_true h⟩⟩
def Pre (v : View) (dn : Nat → Bool) (ρ w : Int) (S : List Agr) (fly : List Pkt) : Prop := (∀ i, Up v dn i → UO False ρ w (nthA S i)) ∧ ∀ q ∈ fly, MO False ρ q.m
structure Post (v : View) (dn : Nat → Bool) (k0 : Nat) (ρ w wc : Int) (S : List Agr) (fly : List Pkt) : Prop where
  st : ∀ i, Up v dn i → Cls (fun i => decide (i = k0)) True ρ w wc i (nthA S i)
  ms : ∀ q ∈ fly, MO True ρ q.m
def Stg (v : View) (dn : Nat → Bool) (k0 : Nat) (S : List Agr) (fly : List Pkt) : Nat → Prop
  | 0 => ∀ j, Up v dn j → j ≠ k0 → ∃ f ∈ fly, f.to = mI v j ∧ f.m.kind = 2 ∧ f.m.src = mI v k0
  | 1 => ∀ j, Up v dn j → j ≠ k0 → ∃ f ∈ fly, f.to = mI v k0 ∧ f.m.kind = 3 ∧ f.m.src = mI v j
  | 2 => (nthA S k0).phase = 2 ∧ ∀ j, Up v dn j → j ≠ k0 → ∃ f ∈ fly, f.to = mI v j ∧ f.m.kind = 4
  | _ => (nthA S k0).phase = 2 ∧ ∀ j, Up v dn j → j ≠ k0 → ∃ f ∈ fly, f.to = mI v k0 ∧ f.m.kind = 5 ∧ f.m.src = mI v j
theorem one_tck (hv : viewB v = true) {S : List Agr} {N fly : List Pkt} {g : Gh} (h : SI v S (fly ++ N) g) (ho : One v dn S) : OneP v dn (tckA v dn (S, N) v.mem.length).1 (tckA v dn (S, N) v.mem.length).2 := by
  obtain ⟨i, hi, hd⟩ := ho
  obtain ⟨r1, r2, r3, r4, r5⟩ := h.st i hi.1
  exact tck_one h hi (by rw [tick_keep r3 r4 hd]; exact hd) hv
theorem plc {S : List Agr} {F : List Pkt} {g : Gh} (hv : viewB v = true) (h : SI v S F g) {i : Nat} (hi : i < v.mem.length) : placeB (nthA S i).view.mem (nthA S i).self = (i : Int) := by
  obtain ⟨r1, r2, _⟩ := h.st i hi
  rw [r1, r2]
  exact pl_int hv hi
theorem round_pre (hv : viewB v = true) (hk : Up v dn k0) (hle : ∀ i, Up v dn i → k0 ≤ i) (hρ : ρ = 1024 + mI v k0) {S : List Agr} {fly : List Pkt} {g : Gh} (h : SI v S fly g) {t : Nat} (ht : t + 1 ≤ 8 + 6 * k0) (hP : Pre v dn ρ t S fly) :
    OneP v dn (roundR v dn S fly).1 (roundR v dn S fly).2 ∨ (t + 1 < 8 + 6 * k0 ∧ Pre v dn ρ ((t + 1 : Nat) : Int) (roundR v dn S fly).1 (roundR v dn S fly).2) ∨
    (t + 1 = 8 + 6 * k0 ∧ Post v dn k0 ρ ((t + 1 : Nat) : Int) 0 (roundR v dn S fly).1 (roundR v dn S fly).2 ∧ (Stg v dn k0 (roundR v dn S fly).1 (roundR v dn S fly).2 0 ∨ Stg v dn k0 (roundR v dn S fly).1 (roundR v dn S fly).2 2)) := by
  have H := (hyp_off (dn := dn) hv hk.1 hρ).1
  have hn := view_n hv
  obtain ⟨g1, h1⟩ := si_dlvA (dn := dn) hv h fly.length (Nat.le_refl _)
  have hu := dlvA_und H h (b := False) (w := t) (wc := 0) (fun i hi => .inl ⟨rfl, hP.1 i hi⟩) hP.2 fly.length (Nat.le_refl _)
  unfold roundR
  generalize dlvA v dn S fly fly.length = x at *
  rcases hu with hu | ⟨c1, c2, _, _⟩
  · exact .inl (one_tck hv h1 hu)
  · have c1 : ∀ i, Up v dn i → UO False ρ t (nthA x.1 i) := fun i hi => by
      rcases c1 i hi with h | h
      · exact h.2
      · exact h.2.1.elim
    by_cases hone : ∃ i, Up v dn i ∧ (tickA (nthA x.1 i)).1.dec ≠ []
    · obtain ⟨i, hi, hd⟩ := hone
      exact .inl (tck_one h1 hi hd hv)
    · right
      have hno : ∀ i, Up v dn i → (tickA (nthA x.1 i)).1.dec = [] := fun i hi => by
        cases hd : (tickA (nthA x.1 i)).1.dec with
        | nil => rfl
        | cons y l => exact absurd ⟨i, hi, by rw [hd]; simp⟩ hone
      obtain ⟨t1, t2, t3, t4, t5⟩ := tckA_spec (dn := dn) h1.len (N := x.2) v.mem.length (Nat.le_refl _)
      have tat := fun i (hi : Up v dn i) => tck_at (N := x.2) h1.len hi
      generalize tckA v dn (x.1, x.2) v.mem.length = y at *
      have htk : ∀ i, Up v dn i → t + 1 < 8 + 6 * i → UO False ρ ((t : Int) + 1) (tickA (nthA x.1 i)).1 ∧ ∀ p ∈ (tickA (nthA x.1 i)).2, MO False ρ p.m := fun i hi hlt => by
        obtain ⟨r1, r2, r3, r4, r5⟩ := h1.st i hi.1
        rcases uo_tick r3 r4 (c1 i hi) (by omega) (by have := hk.1; omega) (plc hv h1 hi.1) (by have := hi.1; omega) (by omega) with h | h
        · exact absurd (hno i hi) h
        · exact ⟨h.1, h.2.2.1⟩
      by_cases hlt : t + 1 < 8 + 6 * k0
      · left
        refine ⟨hlt, fun i hi => ?_, fun q hq => ?_⟩
        · rw [tat i hi]
          have := (htk i hi (by have := hle i hi; omega)).1
          rw [Int.natCast_add]
          exact this
        · rcases t5 q hq with hq | ⟨i, hi, hdi, hq⟩
          · exact c2 q hq
          · obtain ⟨p, hp, e, _⟩ := spr_mem hq
            rw [e]
            exact (htk i ⟨hi, hdi⟩ (by have := hle i ⟨hi, hdi⟩; omega)).2 p hp
      · right
        obtain ⟨r1, r2, r3, r4, r5⟩ := h1.st k0 hk.1
        rcases uo_start r3 r4 (c1 k0 hk) (by omega) (by have := hk.1; omega) (plc hv h1 hk.1) (by have := hk.1; omega) (by omega) (by rw [r1]; exact hρ) with hs | ⟨s1, s2, s3, s4⟩
        · exact absurd (hno k0 hk) hs
        · have hup : ∀ i, Up v dn i → i ≠ k0 → t + 1 < 8 + 6 * i := fun i hi hne => by
            have := hle i hi
            omega
          refine ⟨by omega, ⟨fun i hi => ?_, fun q hq => ?_⟩, ?_⟩
          · rw [tat i hi]
            by_cases e : i = k0
            · rw [e]
              exact .inr ⟨decide_eq_true rfl, trivial, s1⟩
            · have := (htk i hi (hup i hi e)).1
              refine .inl ⟨decide_eq_false e, ?_⟩
              rw [Int.natCast_add]
              exact ⟨this.dec, this.prop, this.pro.imp id (fun h => h.1.elim), this.ar.imp id (fun h => h.1.elim), fun x hx => (this.accs x hx).1.elim, this.rk, this.ph, this.wait⟩
          · have weak : ∀ m, MO False ρ m → MO True ρ m := fun m h => h.imp id (fun h => h.1.elim)
            rcases t5 q hq with hq | ⟨i, hi, hdi, hq⟩
            · exact weak _ (c2 q hq)
            · obtain ⟨p, hp, e, _⟩ := spr_mem hq
              rw [e]
              by_cases e2 : i = k0
              · rw [e2] at hp
                exact s2 p hp
              · exact weak _ ((htk i ⟨hi, hdi⟩ (hup i ⟨hi, hdi⟩ e2)).2 p hp)
          · have bc : ∀ p ∈ (tickA (nthA x.1 k0)).2, p.to = 0 → p.m.src = (nthA x.1 k0).self → ∀ j, Up v dn j → j ≠ k0 → (⟨mI v j, p.m⟩ : Pkt) ∈ y.2 := fun p hp p1 p3 j hj hne =>
              t4 k0 hk.1 hk.2 _ (spr_bc hp hj.1 p1 (by
                rw [p3, r1]
                exact mem_ne hv hj.1 hk.1 hne))
            rcases s1.ar with ⟨e, _⟩ | ⟨e, _⟩
            · left
              obtain ⟨p, hp, p1, p2, p3⟩ := s3 e
              exact fun j hj hne => ⟨_, bc p hp p1 p3 j hj hne, rfl, p2, p3.trans r1⟩
            · right
              obtain ⟨p, hp, p1, p2, p3⟩ := s4 e
              refine ⟨?_, fun j hj hne => ⟨_, bc p hp p1 p3 j hj hne, rfl, p2⟩⟩
              rw [tat k0 hk]
              exact e
def ups (v : View) (dn : Nat → Bool) : List Int := ((List.range v.mem.length).filter fun i => !dn i).map (mI v)
theorem ups_nodup (hv : viewB v = true) : (ups v dn).Nodup := by
  unfold ups List.Nodup
  rw [List.pairwise_map]
  have hr : (List.range v.mem.length).Pairwise (· < ·) := List.pairwise_lt_range
  refine List.Pairwise.imp_of_mem (fun {a b} ha hb hab he => ?_) (hr.sublist List.filter_sublist)
  have h1 := List.mem_range.1 (List.mem_filter.1 ha).1
  have h2 := List.mem_range.1 (List.mem_filter.1 hb).1
  exact mem_ne hv h1 h2 (by omega) he
theorem ups_has (hv : viewB v = true) {l : List Rpt} (h : ∀ i, Up v dn i → has l (mI v i)) : (ups v dn).length ≤ l.length := by
  have := nodup_len (b := l.map (·.mem)) (ups_nodup (dn := dn) hv) (fun x hx => by
    obtain ⟨i, hi, rfl⟩ := List.mem_map.1 hx
    obtain ⟨h1, h2⟩ := List.mem_filter.1 hi
    obtain ⟨y, hy, e⟩ := h i ⟨List.mem_range.1 h1, by simpa using h2⟩
    exact List.mem_map.2 ⟨y, hy, e⟩)
  rw [List.length_map] at this
  exact this
theorem round_post (hv : viewB v = true) (hk : Up v dn k0) (hle : ∀ i, Up v dn i → k0 ≤ i) (hρ : ρ = 1024 + mI v k0) (hmaj : v.mem.length / 2 + 1 ≤ (ups v dn).length) {S : List Agr} {fly : List Pkt} {g : Gh} (h : SI v S fly g) {w c k : Nat} (hw : w + 1 < 8 + 6 * (k0 + 1)) (hc : c + 1 < 8) (hk3 : k ≤ 3) (hP : Post v dn k0 ρ w c S fly) (hS : Stg v dn k0 S fly k) :
    OneP v dn (roundR v dn S fly).1 (roundR v dn S fly).2 ∨ (k < 3 ∧ Post v dn k0 ρ ((w + 1 : Nat) : Int) ((c + 1 : Nat) : Int) (roundR v dn S fly).1 (roundR v dn S fly).2 ∧ Stg v dn k0 (roundR v dn S fly).1 (roundR v dn S fly).2 (k + 1)) := by
  have H := (hyp_off (dn := dn) hv hk.1 hρ).2
  have hn := view_n hv
  have hpos := use_pos H.use
  obtain ⟨g1, h1⟩ := si_dlvA (dn := dn) hv h fly.length (Nat.le_refl _)
  have hu := dlvA_und H h (b := True) (w := w) (wc := c) hP.st hP.ms fly.length (Nat.le_refl _)
  rw [List.take_length] at hu
  unfold roundR
  generalize dlvA v dn S fly fly.length = x at *
  rcases hu with hu | ⟨c1, c2, c3, c4⟩
  · exact .inl (one_tck hv h1 hu)
  · by_cases hone : ∃ i, Up v dn i ∧ (tickA (nthA x.1 i)).1.dec ≠ []
    · obtain ⟨i, hi, hd⟩ := hone
      exact .inl (tck_one h1 hi hd hv)
    · right
      have hno : ∀ i, Up v dn i → (tickA (nthA x.1 i)).1.dec = [] := fun i hi => by
        cases hd : (tickA (nthA x.1 i)).1.dec with
        | nil => rfl
        | cons y l => exact absurd ⟨i, hi, by rw [hd]; simp⟩ hone
      obtain ⟨t1, t2, t3, t4, t5⟩ := tckA_spec (dn := dn) h1.len (N := x.2) v.mem.length (Nat.le_refl _)
      have tat := fun i (hi : Up v dn i) => tck_at (N := x.2) h1.len hi
      generalize tckA v dn (x.1, x.2) v.mem.length = y at *
      have cO : ∀ i, Up v dn i → i ≠ k0 → UO True ρ w (nthA x.1 i) := fun i hi hne => by
        rcases c1 i hi with h | h
        · exact h.2
        · exact absurd (of_decide_eq_true h.1) hne
      have cC : UC ρ c (nthA x.1 k0) := by
        rcases c1 k0 hk with h | h
        · exact absurd rfl (of_decide_eq_false h.1)
        · exact h.2.2
      have htk : ∀ i, Up v dn i → i ≠ k0 → UO True ρ ((w : Int) + 1) (tickA (nthA x.1 i)).1 ∧ ∀ p ∈ (tickA (nthA x.1 i)).2, MO True ρ p.m := fun i hi hne => by
        obtain ⟨r1, r2, r3, r4, r5⟩ := h1.st i hi.1
        have := hle i hi
        rcases uo_tick r3 r4 (cO i hi hne) (by omega) (by have := hk.1; omega) (plc hv h1 hi.1) (by have := hi.1; omega) (by omega) with h | h
        · exact absurd (hno i hi) h
        · exact ⟨h.1, h.2.2.1⟩
      obtain ⟨r1, r2, r3, r4, r5⟩ := h1.st k0 hk.1
      rcases uc_tick r3 r4 cC (by omega) (by omega) (plc hv h1 hk.1) (by have := hk.1; omega) with hs | ⟨s1, s2, s3, s4, s5, s6, s7, s8⟩
      · exact absurd (hno k0 hk) hs
      · have bc : ∀ p ∈ (tickA (nthA x.1 k0)).2, p.to = 0 → p.m.src = (nthA x.1 k0).self → ∀ j, Up v dn j → j ≠ k0 → (⟨mI v j, p.m⟩ : Pkt) ∈ y.2 := fun p hp p1 p3 j hj hne =>
          t4 k0 hk.1 hk.2 _ (spr_bc hp hj.1 p1 (by
            rw [p3, r1]
            exact mem_ne hv hj.1 hk.1 hne))
        have hpost : Post v dn k0 ρ ((w + 1 : Nat) : Int) ((c + 1 : Nat) : Int) y.1 y.2 := by
          refine ⟨fun i hi => ?_, fun q hq => ?_⟩
          · rw [tat i hi, Int.natCast_add, Int.natCast_add]
            by_cases e : i = k0
            · rw [e]
              exact .inr ⟨decide_eq_true rfl, trivial, s1⟩
            · exact .inl ⟨decide_eq_false e, (htk i hi e).1⟩
          · rcases t5 q hq with hq | ⟨i, hi, hdi, hq⟩
            · exact c2 q hq
            · obtain ⟨p, hp, e, _⟩ := spr_mem hq
              rw [e]
              by_cases e2 : i = k0
              · rw [e2] at hp
                exact s5 p hp
              · exact (htk i ⟨hi, hdi⟩ e2).2 p hp
        have hplk : ∀ {f : Pkt} {j : Nat}, j < v.mem.length → f.to = mI v j → plN v f.to = j := fun {f j} hj e => by rw [e, pl_mI hv hj]
        -- the attempt's second half, once a majority has promised
        have st2 : (nthA x.1 k0).phase = 2 → Stg v dn k0 y.1 y.2 2 := fun e => by
          obtain ⟨p, hp, p1, p2, p3⟩ := s7 e
          refine ⟨?_, fun j hj hne => ⟨_, bc p hp p1 p3 j hj hne, rfl, p2⟩⟩
          rw [tat k0 hk, s3]
          exact e
        match k, hk3, hS with
        | 0, _, hS =>
          refine ⟨by omega, hpost, fun j hj hne => ?_⟩
          obtain ⟨f, hf, e1, e2, e3⟩ := hS j hj hne
          obtain ⟨q, hq, q1, q2, q3⟩ := (c3 f hf (by rw [hplk hj.1 e1]; exact hj)).1 e2
          exact ⟨q, t3 q hq, q1.trans e3, q2, q3.trans e1⟩
        | 1, _, hS =>
          refine ⟨by omega, hpost, st2 ?_⟩
          rcases cC.ar with ⟨e, _⟩ | ⟨e, _⟩
          · exfalso
            have hh : ∀ i, Up v dn i → has (nthA x.1 k0).reps (mI v i) := fun i hi => by
              by_cases hne : i = k0
              · rw [hne]
                have h0 : 0 ≤ ofB (nthA x.1 k0).reps (nthA x.1 k0).self := by
                  rcases r3.ph with h | h
                  · omega
                  · exact h.2.2.2
                rw [r1] at h0
                exact ofb_iff.1 h0
              · obtain ⟨f, hf, e1, e2, e3⟩ := hS i hi hne
                have hpk := hplk hk.1 e1
                have := (c3 f hf (by rw [hpk]; exact hk)).2.1 e2 (by rw [hpk]; exact decide_eq_true rfl)
                rw [hpk, e3] at this
                rcases this with h | h
                · omega
                · exact h
            have h2 := ups_has hv hh
            have h3 := r4 e
            rw [r2, maj_n hv] at h3
            omega
          · exact e
        | 2, _, hS =>
          have hph := c4.ph k0 (decide_eq_true rfl) hS.1
          refine ⟨by omega, hpost, ?_, fun j hj hne => ?_⟩
          · rw [tat k0 hk, s3]
            exact hph
          · obtain ⟨f, hf, e1, e2⟩ := hS.2 j hj hne
            have hpj := hplk hj.1 e1
            obtain ⟨q, hq, q1, q2, q3⟩ := (c3 f hf (by rw [hpj]; exact hj)).2.2.1 e2 k0 hk.1 (by rw [hpj]; exact fun e => hne e.symm)
            exact ⟨q, t3 q hq, q1, q2, q3.trans e1⟩
        | k + 3, hk3, hS =>
          exfalso
          have hph := c4.ph k0 (decide_eq_true rfl) hS.1
          have hh : ∀ i, Up v dn i → has (nthA x.1 k0).accs (mI v i) := fun i hi => by
            by_cases hne : i = k0
            · rw [hne]
              rcases cC.ar with ⟨e, _⟩ | ⟨_, e⟩
              · omega
              · rw [r1] at e
                exact e
            · obtain ⟨f, hf, e1, e2, e3⟩ := hS.2 i hi hne
              have hpk := hplk hk.1 e1
              have := (c3 f hf (by rw [hpk]; exact hk)).2.2.2 e2
              rw [hpk, e3] at this
              exact this
          have h2 := ups_has hv hh
          refine all_dec r3 (by omega) cC.accs (fun a ha b hb => ?_) (by rw [r2, maj_n hv]; omega) s8
          have ha2 := r5.re.accs a ha
          have hb2 := r5.re.accs b hb
          rw [cC.accs a ha] at ha2
          rw [cC.accs b hb] at hb2
          exact h1.inv.c1 _ _ _ (h1.inv.a1 _ _ _ ha2).1 (h1.inv.a1 _ _ _ hb2).1
def Jn (v : View) (dn : Nat → Bool) (k0 : Nat) (ρ : Int) (t : Nat) (S : List Agr) (fly : List Pkt) : Prop :=
  AllD v dn S ∨ (OneP v dn S fly ∧ t ≤ 8 + 6 * k0 + 4) ∨ (t < 8 + 6 * k0 ∧ Pre v dn ρ t S fly) ∨
  (8 + 6 * k0 ≤ t ∧ ∃ k, k ≤ 3 ∧ t ≤ 8 + 6 * k0 + k ∧ Post v dn k0 ρ t ((t - (8 + 6 * k0) : Nat) : Int) S fly ∧ Stg v dn k0 S fly k)
theorem jn_step (hv : viewB v = true) (hk : Up v dn k0) (hle : ∀ i, Up v dn i → k0 ≤ i) (hρ : ρ = 1024 + mI v k0) (hmaj : v.mem.length / 2 + 1 ≤ (ups v dn).length) {S : List Agr} {fly : List Pkt} {g : Gh} (h : SI v S fly g) {t : Nat} (hJ : Jn v dn k0 ρ t S fly) : Jn v dn k0 ρ (t + 1) (roundR v dn S fly).1 (roundR v dn S fly).2 := by
  rcases hJ with hJ | ⟨hJ, _⟩ | ⟨ht, hJ⟩ | ⟨ht, k, hk3, htk, hP, hS⟩
  · exact .inl (one_all hv h (.inr hJ))
  · exact .inl (one_all hv h (.inl hJ))
  · rcases round_pre hv hk hle hρ h (by omega) hJ with h1 | ⟨h1, h2⟩ | ⟨h1, h2, h3⟩
    · exact .inr (.inl ⟨h1, by omega⟩)
    · exact .inr (.inr (.inl ⟨h1, h2⟩))
    · have e : t + 1 - (8 + 6 * k0) = 0 := by omega
      refine .inr (.inr (.inr ⟨by omega, ?_⟩))
      rw [e]
      rcases h3 with h3 | h3
      · exact ⟨0, by omega, by omega, h2, h3⟩
      · exact ⟨2, by omega, by omega, h2, h3⟩
  · rcases round_post hv hk hle hρ hmaj h (w := t) (c := t - (8 + 6 * k0)) (by omega) (by omega) hk3 hP hS with h1 | ⟨h1, h2, h3⟩
    · exact .inr (.inl ⟨h1, by omega⟩)
    · have e : t + 1 - (8 + 6 * k0) = t - (8 + 6 * k0) + 1 := by omega
      refine .inr (.inr (.inr ⟨by omega, k + 1, by omega, by omega, ?_, h3⟩))
      rw [e]
      exact h2
theorem jn_end (hk : Up v dn k0) {t : Nat} {S : List Agr} {fly : List Pkt} (hJ : Jn v dn k0 ρ t S fly) (ht : 16 + 6 * v.mem.length ≤ t) : AllD v dn S := by
  have := hk.1
  rcases hJ with hJ | ⟨_, h⟩ | ⟨h, _⟩ | ⟨_, k, hk3, h, _⟩
  · exact hJ
  · omega
  · omega
  · omega
end
end Go.Proofs.Ytmbniilpgbjcfaa

set_option maxRecDepth 100000
namespace Go.Proofs.Ytmbniilpgbjcfaa
open Go.Lift
theorem si_prop {v : View} {S : List Agr} {F : List Pkt} {g : Gh} (h : SI v S F g) (c : List Int) : SI v S F (gPr g c) := by
  obtain ⟨i0, s0⟩ := g_prop (c := c) h.inv 0
  refine ⟨h.len, i0, fun i hi => ?_, fun f hf => ?_⟩
  · obtain ⟨c1, c2, c3, c4, c5⟩ := h.st i hi
    exact ⟨c1, c2, c3, c4, ⟨c5.ac.pro, c5.ac.neg, c5.ac.zero, c5.ac.pos, c5.ac.top⟩, re_ext s0.ext (fun _ _ h => h) (fun p => (ph_rank c3 (.inl p)).2.2.1) c5.re⟩
  · obtain ⟨c1, c2, c3, c4⟩ := h.fl f hf
    exact ⟨c1, c2, c3, fok_ext s0.ext c1 c4⟩
theorem prop_first {v : View} (hv : viewB v = true) {m : Int} (hm : inB v.mem m = true) {c : List Int} (hc : appB v c = true) :
    (propA (stA v m) c).2.2 = 0 ∧ ((propA (stA v m) c).1, (propA (stA v m) c).2.1) = endA { stA v m with prop := c, wait := 0, acc := ⟨0, 0, c⟩, box := insB [] ⟨m, c⟩ } [pktOf (stA v m) 0 1 0 0 c] := by
  have hA := aw_new hv hm
  have hf : few (stA v m) := fun e => by
    have e : (0 : Int) = 1 := e
    omega
  have hb : agrB (stA v m) = true := (agr_iff _).2 ⟨hA, hf⟩
  have hids := app_ids (of_decide_eq_true hc)
  have hvote : voteR (stA v m).acc c = (⟨0, 0, c⟩, true) := by
    unfold voteR
    rw [hA.acc]
    show (bif false then _ else bif !decide ((0 : Int) = 0) || !decide ((-1 : Int) = -1) || !idsB c 32 then _ else _) = _
    rw [hids]
    rfl
  have hcast : castR v [] ⟨m, c⟩ = (insB [] ⟨m, c⟩, 0) := by
    have e1 : (!boxB v [] || !appB v c) = false := by
      have := hA.box
      rw [show boxB v [] = true from this, hc]
      rfl
    have e2 : (!inB v.mem m) = false := by rw [hm]; rfl
    exact cast_new (b := ⟨m, c⟩) e1 e2 (by simp)
  unfold propA
  have e1 : (!agrB (stA v m) || !appB (stA v m).view c) = false := by
    rw [hb, show appB (stA v m).view c = true from hc]
    rfl
  have e2 : (decide (0 < ((stA v m).prop.length : Int)) || decide (0 < ((stA v m).dec.length : Int))) = false := rfl
  rw [e1, e2, hvote]
  simp only [cond_true, cond_false]
  rw [show castR (stA v m).view (stA v m).box ⟨(stA v m).self, c⟩ = castR v [] ⟨m, c⟩ from rfl, hcast]
  exact ⟨trivial, rfl⟩
theorem end_tell {s : Agr} {ps : List Pkt} (hd : s.dec = []) (h : (endA s ps).1.dec ≠ []) : ∃ p ∈ (endA s ps).2, p.to = 0 ∧ p.m.kind = 6 ∧ p.m.src = s.self := by
  unfold endA at h ⊢
  cases hc : decide ((s.dec.length : Int) = 0) && decide (0 < ((decR s).length : Int))
  · rw [hc] at h
    exact absurd hd h
  · exact ⟨pktOf s 0 6 0 0 (decR s), by simp, rfl, rfl, rfl⟩
def iniA (v : View) (dn : Nat → Bool) (cs : Nat → List Int) : Nat → List Agr × List Pkt
  | 0 => (S0 v, [])
  | i + 1 => bif dn i then iniA v dn cs i else ((iniA v dn cs i).1.set i (propA (stA v (mI v i)) (cs i)).1, (iniA v dn cs i).2 ++ spreadR v (propA (stA v (mI v i)) (cs i)).2.1)
section
variable {v : View} {dn : Nat → Bool} {cs : Nat → List Int}
theorem ini_spec (hv : viewB v = true) (h6 : v.mem.length ≤ 6) (hc : ∀ i, appB v (cs i) = true) : ∀ i, i ≤ v.mem.length →
    (∃ g, SI v (iniA v dn cs i).1 (iniA v dn cs i).2 g) ∧ (∀ j, i ≤ j → j < v.mem.length → nthA (iniA v dn cs i).1 j = stA v (mI v j)) ∧
    (wts (iniA v dn cs i).2 + phis (iniA v dn cs i).1 ≤ 264 * 6 + 42 * i) ∧
    ((∃ a, a < i ∧ dn a = false ∧ (nthA (iniA v dn cs i).1 a).dec ≠ [] ∧ ∀ j, j < v.mem.length → j ≠ a → ∃ f ∈ (iniA v dn cs i).2, f.to = mI v j ∧ f.m.kind = 6) ∨
     ((∀ a, a < i → dn a = false → ∀ ρ, UO False ρ 0 (nthA (iniA v dn cs i).1 a)) ∧ ∀ q ∈ (iniA v dn cs i).2, q.m.kind = 1))
  | 0, _ => by
    have hl := (lw_0 hv)
    obtain ⟨g, hL⟩ := hl
    have hp := phis_le (S0 v)
    have h0 : (S0 v).length = v.mem.length := by simp [S0]
    rw [h0] at hp
    have : 264 * v.mem.length ≤ 264 * 6 := Nat.mul_le_mul_left _ h6
    refine ⟨⟨g, hL.len, hL.inv, hL.st, hL.fl⟩, fun j _ hj => nth_S0 hj, ?_, .inr ⟨fun a ha => absurd ha (Nat.not_lt_zero _), fun q hq => by cases hq⟩⟩
    show wts [] + phis (S0 v) ≤ _
    have e : wts [] = 0 := rfl
    rw [e]
    omega
  | i + 1, hi => by
    obtain ⟨⟨g, hS⟩, h2, h3, h4⟩ := ini_spec hv h6 hc i (by omega)
    unfold iniA
    generalize iniA v dn cs i = x at *
    cases hd : dn i
    · simp only [cond_false]
      have hst := h2 i (Nat.le_refl _) (by omega)
      have hin := in_of_mem (mI_mem (v := v) (show i < v.mem.length by omega))
      have hl : i < x.1.length := by rw [hS.len]; omega
      obtain ⟨r1, r2, r3, r4, r5⟩ := (si_prop hS (cs i)).st i (by omega)
      obtain ⟨q1, q2, q3, q4, q5⟩ := hS.st i (by omega)
      obtain ⟨p1, p2⟩ := prop_first hv hin (hc i)
      rw [hst] at q1 q2 q3 q4 q5
      have hres := g_propose hS.inv q3 q4 q2 q5 p1
      have hnice := nice_prop q3 q4 p1
      rw [← hst] at hres hnice
      obtain ⟨g', hS'⟩ := si_act hv (si_prop hS (cs i)) (show i < v.mem.length by omega) hres hnice
      rw [hst] at hS'
      have hend := end_dec (s := { stA v (mI v i) with prop := cs i, wait := 0, acc := ⟨0, 0, cs i⟩, box := insB [] ⟨mI v i, cs i⟩ }) rfl [pktOf (stA v (mI v i)) 0 1 0 0 (cs i)]
      have hw := end_w { stA v (mI v i) with prop := cs i, wait := 0, acc := ⟨0, 0, cs i⟩, box := insB [] ⟨mI v i, cs i⟩ } [pktOf (stA v (mI v i)) 0 1 0 0 (cs i)]
      rw [← p2] at hend hw
      have hx := phis_set (x := (propA (stA v (mI v i)) (cs i)).1) (S := x.1) (a := i) hl
      rw [hst] at hx
      have hws := wts_spr h6 (propA (stA v (mI v i)) (cs i)).2.1
      have hw1 : wts [pktOf (stA v (mI v i)) 0 1 0 0 (cs i)] = 7 := rfl
      have hph : phi { stA v (mI v i) with prop := cs i, wait := 0, acc := ⟨0, 0, cs i⟩, box := insB [] ⟨mI v i, cs i⟩ } = phi (stA v (mI v i)) := rfl
      rw [hw1, hph] at hw
      simp only [] at hw
      refine ⟨⟨g', hS'⟩, fun j hj hjn => ?_, ?_, ?_⟩
      · rw [nth_set hl, if_neg (by omega)]
        exact h2 j (by omega) hjn
      · rw [wts_app]
        omega
      · rcases h4 with ⟨a, ha, hda, hdec, hfl⟩ | ⟨hu, hk⟩
        · left
          refine ⟨a, by omega, hda, ?_, fun j hj hne => ?_⟩
          · rw [nth_set hl, if_neg (by omega)]
            exact hdec
          · obtain ⟨f, hf, e⟩ := hfl j hj hne
            exact ⟨f, List.mem_append_left _ hf, e⟩
        · rcases hend with hend | hend
          · left
            refine ⟨i, by omega, hd, ?_, fun j hj hne => ?_⟩
            · rw [nth_set hl, if_pos rfl]
              exact hend
            · have htell : ∃ p ∈ (propA (stA v (mI v i)) (cs i)).2.1, p.to = 0 ∧ p.m.kind = 6 ∧ p.m.src = mI v i := by
                have e1 : (propA (stA v (mI v i)) (cs i)).1 = (endA { stA v (mI v i) with prop := cs i, wait := 0, acc := ⟨0, 0, cs i⟩, box := insB [] ⟨mI v i, cs i⟩ } [pktOf (stA v (mI v i)) 0 1 0 0 (cs i)]).1 := by rw [← p2]
                have e2 : (propA (stA v (mI v i)) (cs i)).2.1 = (endA { stA v (mI v i) with prop := cs i, wait := 0, acc := ⟨0, 0, cs i⟩, box := insB [] ⟨mI v i, cs i⟩ } [pktOf (stA v (mI v i)) 0 1 0 0 (cs i)]).2 := by rw [← p2]
                simp only [] at hend
                rw [e1] at hend
                rw [e2]
                exact end_tell rfl hend
              obtain ⟨p, hp, z1, z2, z3⟩ := htell
              exact ⟨_, List.mem_append_right _ (spr_bc hp hj z1 (by
                rw [z3]
                exact mem_ne hv hj (by omega) hne)), rfl, z2⟩
          · right
            rw [Prod.mk.injEq] at hend
            refine ⟨fun a ha hda ρ => ?_, fun q hq => ?_⟩
            · rw [nth_set hl]
              by_cases e : a = i
              · rw [if_pos e, hend.1]
                exact ⟨rfl, app_ne (hc i), .inl rfl, .inl rfl, (fun x hx => by cases hx), rfl, rfl, rfl⟩
              · rw [if_neg e]
                exact hu a (by omega) hda ρ
            · rcases List.mem_append.1 hq with hq | hq
              · exact hk q hq
              · obtain ⟨p, hp, e, _⟩ := spr_mem hq
                rw [hend.2] at hp
                rw [e, List.mem_singleton.1 hp]
                rfl
    · simp only [cond_true]
      refine ⟨⟨g, hS⟩, fun j hj hjn => h2 j (by omega) hjn, by omega, ?_⟩
      rcases h4 with ⟨a, ha, hda, h⟩ | ⟨hu, hk⟩
      · exact .inl ⟨a, by omega, hda, h⟩
      · refine .inr ⟨fun a ha hda ρ => ?_, hk⟩
        by_cases e : a = i
        · rw [e, hd] at hda
          cases hda
        · exact hu a (by omega) hda ρ
end
end Go.Proofs.Ytmbniilpgbjcfaa

set_option maxRecDepth 100000
namespace Go.Proofs.Ytmbniilpgbjcfaa
open Go.Lift
theorem fitsAg {n : Nat} (h : n ≤ 1000) : fitsIn tt 30 n := by
  have e : (tinfo tt 30).bytes = 248 := by kernel_rfl
  refine ⟨?_, ?_⟩
  · rw [e]; omega
  · simp only [maxLen]; omega
theorem wrap_un {k : Nat} (h : k ≤ 1000) : IntKind.u64.wrap (k : Int) = (k : Int) := by
  have e : IntKind.u64.wrap (k : Int) = (k : Int) % 18446744073709551616 := rfl
  rw [e]
  exact Int.emod_eq_of_lt (by omega) (by omega)
theorem row_set {S : List Agr} {a : Nat} {x : Agr} : (S.map agrE).set a (agrE x) = (S.set a x).map agrE := by rw [List.map_set]
def dnB (D : Int) (k : Nat) : Bool := decide ((D.fdiv (2 ^ min (IntKind.u64.wrap (k : Int)).toNat IntKind.u16.bits)).tmod 2 = 1)
theorem dnB_not {D : Int} (hD : 0 ≤ D) (k : Nat) : decide ((D.fdiv (2 ^ min (IntKind.u64.wrap (k : Int)).toNat IntKind.u16.bits)).tmod 2 = 0) = !dnB D k := by
  unfold dnB
  generalize min (IntKind.u64.wrap (k : Int)).toNat IntKind.u16.bits = e
  have h1 : 0 ≤ D.fdiv (2 ^ e) := Int.fdiv_nonneg hD (Int.le_of_lt (Int.pow_pos (by omega)))
  generalize D.fdiv (2 ^ e) = x at *
  have h2 : x.tmod 2 = x % 2 := Int.tmod_eq_emod_of_nonneg h1
  rw [h2]
  by_cases h : x % 2 = 0
  · rw [decide_eq_true h, decide_eq_false (by omega)]
    rfl
  · rw [decide_eq_false h, decide_eq_true (by omega)]
    rfl
theorem wts_part (l : List Pkt) (i : Nat) : wts (l.take i) ≤ wts l := by
  have := wts_app (l.take i) (l.drop i)
  rw [List.take_append_drop] at this
  omega
set_option maxHeartbeats 16000000 in
theorem m_round (v : View) (hvw : viewB v = true) (h6 : v.mem.length ≤ 6) (D : Int) (hD : 0 ≤ D) (S : List Agr) (fly : List Pkt) (g : Gh) (hS : SI v S fly g) (hwt : wts fly + phis S ≤ 200000) :
    RetM Try.prog 25 [] [.agg (viewE v), .lst 15 (S.map agrE) false, .lst 7 (fly.map pktE) false, .v (.int .u16 D)] [] [.dead, .row 30 15 ((roundR v (dnB D) S fly).1.map agrE), .row 62 7 ((roundR v (dnB D) S fly).2.map pktE)] (.tup [.own 1, .own 2, .v (.bool true)]) := by
  have hSl := hS.len
  have hfl : fly.length ≤ 200000 := by have := (wts_le fly).1; omega
  refine retM_of_body (fn := Try.f25) (c := Try.f25.body.getD .skip) hm hT (by kernel_rfl) Try.func25 (by kernel_rfl) (by kernel_rfl) (by kernel_rfl) (by kernel_rfl) (by kernel_rfl) ?_
  repeat' ((conv => whnf); first | refine And.intro (fun h => h) ?_ | refine dcond_t (by assumption) ?_ | refine dcond_f (by assumption) ?_ | (refine dcond_intro ?_ ?_ <;> intro h) | exact .refl | refine And.intro (by kernel_rfl) ?_ | refine And.intro ⟨fun h => h, fun h => h⟩ ?_ | refine And.intro (fitsAg (by simp <;> omega)) ?_ | refine Exists.intro false ?_ | (refine And.intro ?_ ?_; focus (simp; done)) | fail)
  all_goals (conv => whnf)
  refine ⟨Nat, fun i => ⟨[(2, .lst 7 (fly.map pktE) false), (3, .v (.int .u16 D)), (4, .lp 0 0), (11, .own 1), (12, .own 2), (13, i64 i)], [.cells 24 (viewE v), .row 30 15 ((dlvA v (dnB D) S fly i).1.map agrE), .row 62 7 ((dlvA v (dnB D) S fly i).2.map pktE)]⟩, fun i => i ≤ fly.length, fun i => fly.length - i, [.slot 12 62 7], ⟨0, Nat.zero_le _, ?_⟩, ?_⟩
  · conv => whnf
    exact ⟨⟨.refl, .refl, .refl, .refl, .refl, .refl, trivial⟩, ⟨.refl, .refl, .refl, trivial⟩, by rfl⟩
  · intro i hi
    repeat' ((conv => whnf); first | refine And.intro (fun h => h) ?_ | refine dcond_t (by assumption) ?_ | refine dcond_f (by assumption) ?_ | (refine dcond_intro ?_ ?_ <;> intro h) | exact .refl | refine And.intro (by kernel_rfl) ?_ | refine And.intro ⟨fun h => h, fun h => h⟩ ?_ | refine Exists.intro false ?_ | (refine And.intro ?_ ?_; focus (simp; done)) | fail)
    all_goals (conv => whnf)
    · have hlt : i < fly.length := by simpa using h
      clear h
      obtain ⟨g1, h1⟩ := si_dlvA (dn := dnB D) hvw hS i hi
      have hw1 := dlvA_w (dn := dnB D) hvw h6 hS i hi
      have hw2 := wts_part fly i
      have hfm : fly[i] ∈ fly := List.getElem_mem hlt
      have hgf : (fly.map pktE)[i]? = some (pktE fly[i]) := get_map hlt
      have hnx : dlvA v (dnB D) S fly (i + 1) = dlv v (dnB D) (dlvA v (dnB D) S fly i) fly[i] := by
        have hg : fly.getD i pkt0 = fly[i] := by simp [hlt]
        rw [← hg]
        rfl
      generalize dlvA v (dnB D) S fly i = x at *
      obtain ⟨f, hf⟩ : ∃ f, f = fly[i] := ⟨_, rfl⟩
      rw [← hf] at hfm hgf hnx
      clear hf
      obtain ⟨f1, f2, f3, f4⟩ := h1.fl f (List.mem_append_left _ hfm)
      obtain ⟨hb, hbp, hbm⟩ := pl_at f2
      obtain ⟨r1, r2, r3, r4, r5⟩ := h1.st _ hb
      have hok := (si_dlv (dn := dnB D) hvw h1 hfm).1
      have ePl := c_ref3_Place v.mem (by simp only [maxLen]; omega) f.to
      rw [hbp] at ePl
      unfold dlv at hnx
      generalize plN v f.to = a at *
      have hw0 : 0 ≤ IntKind.u64.wrap (a : Int) := by rw [wrap_un (by omega)]; omega
      have hcond : (decide ((a : Int) < 0) || dnB D a) = dnB D a := by rw [decide_eq_false (by omega)]; rfl
      have hla : a < (x.1.map agrE).length := by rw [List.length_map, h1.len]; exact hb
      have hga := nth_get (S := x.1) (i := a) (by rw [h1.len]; exact hb)
      have eR := c_agreement_Receive (nthA x.1 a) (sm_aw r3) f.m (by have := vm_len f1; omega)
      have lR := rec_ps (nthA x.1 a) f.m
      cases hd : dnB D a
      · rw [hd, cond_false] at hnx
        have hX := hok hd
        have hc0 : (decide ((a : Int) < 0) || dnB D a) = false := by rw [hcond, hd]
        generalize recA (nthA x.1 a) f.m = X at *
        rw [hX] at eR
        have hlx : x.2.length ≤ 200000 := by have := (wts_le x.2).1; omega
        have espr := m_spread v (by omega) x.2 X.2.1 (by omega) (by omega)
        repeat' ((conv => whnf); first | refine And.intro (fun h => h) ?_ | refine dcond_t (by assumption) ?_ | refine dcond_f (by assumption) ?_ | (refine dcond_intro ?_ ?_ <;> intro h) | exact .refl | refine And.intro (by kernel_rfl) ?_ | refine And.intro ⟨fun h => h, fun h => h⟩ ?_ | refine ⟨i, pktE f, And.intro ⟨rfl, hgf⟩ ?_⟩ | refine .inl ⟨_, _, DleAll_refl _, ePl, ?_⟩ | refine ⟨_, _, DleAll_refl _, fun _ => ePl, ?_⟩ | refine ⟨_, _, DleAll_refl _, ePl, ?_⟩ | refine And.intro ⟨⟨fun h => h, fun h => h⟩, fun _ => hw0⟩ ?_ | refine dcond_f hc0 ?_ | refine ⟨a, And.intro ⟨rfl, hla⟩ ?_⟩ | refine ⟨agrE (nthA x.1 a), And.intro hga ?_⟩ | refine ⟨agrE (nthA x.1 a), hga, ?_⟩ | refine .inl ⟨_, _, DleAll_refl _, eR, ?_⟩ | refine ⟨_, _, DleAll_refl _, fun _ => eR, ?_⟩ | refine ⟨_, _, DleAll_refl _, eR, ?_⟩ | refine .inr ⟨[2], _, _, _, _, _, espr, by rfl, ⟨.refl, trivial⟩, ⟨.refl, .refl, .refl, trivial⟩, ?_⟩ | refine Exists.intro false ?_ | (refine And.intro ?_ ?_; focus (simp; done)) | fail)
        all_goals (conv => whnf)
        refine ⟨i + 1, hlt, by simp only []; omega, ?_⟩
        conv => whnf
        refine ⟨⟨.refl, .refl, .refl, .refl, .refl, dle_int (wrap_succ (by omega)), trivial⟩, ⟨.refl, ole_row ?_, ole_row ?_, trivial⟩, by rfl⟩
        · rw [hnx]
          exact row_set
        · rw [hnx]
      · rw [hd, cond_true] at hnx
        have hc0 : (decide ((a : Int) < 0) || dnB D a) = true := by rw [hcond, hd]
        repeat' ((conv => whnf); first | refine And.intro (fun h => h) ?_ | refine dcond_t (by assumption) ?_ | refine dcond_f (by assumption) ?_ | (refine dcond_intro ?_ ?_ <;> intro h) | exact .refl | refine And.intro (by kernel_rfl) ?_ | refine And.intro ⟨fun h => h, fun h => h⟩ ?_ | refine ⟨i, pktE f, And.intro ⟨rfl, hgf⟩ ?_⟩ | refine .inl ⟨_, _, DleAll_refl _, ePl, ?_⟩ | refine ⟨_, _, DleAll_refl _, fun _ => ePl, ?_⟩ | refine ⟨_, _, DleAll_refl _, ePl, ?_⟩ | refine And.intro ⟨⟨fun h => h, fun h => h⟩, fun _ => hw0⟩ ?_ | refine dcond_t hc0 ?_ | refine Exists.intro false ?_ | (refine And.intro ?_ ?_; focus (simp; done)) | fail)
        all_goals (conv => whnf)
        refine ⟨i + 1, hlt, by simp only []; omega, ?_⟩
        conv => whnf
        refine ⟨⟨.refl, .refl, .refl, .refl, .refl, dle_int (wrap_succ (by omega)), trivial⟩, ⟨.refl, ole_row ?_, ole_row ?_, trivial⟩, by rfl⟩
        · rw [hnx]
        · rw [hnx]
    · have hil : i = fly.length := by
        have := of_decide_eq_false h
        rw [List.length_map] at this
        omega
      clear h
      subst hil
      obtain ⟨g1, h1⟩ := si_dlvA (dn := dnB D) hvw hS fly.length (Nat.le_refl _)
      have hw1 := dlvA_w (dn := dnB D) hvw h6 hS fly.length (Nat.le_refl _)
      rw [List.take_length] at hw1
      have hR : roundR v (dnB D) S fly = tckA v (dnB D) (dlvA v (dnB D) S fly fly.length) v.mem.length := rfl
      rw [hR]
      clear hR
      generalize dlvA v (dnB D) S fly fly.length = x at *
      refine ⟨Nat, fun k => ⟨[(3, .v (.int .u16 D)), (4, .lp 0 0), (11, .own 1), (12, .own 2), (18, i64 k)], [.cells 24 (viewE v), .row 30 15 ((tckA v (dnB D) x k).1.map agrE), .row 62 7 ((tckA v (dnB D) x k).2.map pktE)]⟩, fun k => k ≤ v.mem.length, fun k => v.mem.length - k, [], ⟨0, Nat.zero_le _, ?_⟩, ?_⟩
      · conv => whnf
        exact ⟨⟨.refl, .refl, .refl, .refl, .refl, trivial⟩, ⟨.refl, .refl, .refl, trivial⟩, by rfl⟩
      · intro k hk
        obtain ⟨g2, h2⟩ := si_tckA (dn := dnB D) hvw h1 k hk
        have hw2 := tckA_w (dn := dnB D) hvw h6 h1 k hk
        have hnx : tckA v (dnB D) x (k + 1) = tck v (dnB D) (tckA v (dnB D) x k) k := rfl
        have hend : k = v.mem.length → tckA v (dnB D) x v.mem.length = tckA v (dnB D) x k := fun e => by rw [e]
        have hyl : (tckA v (dnB D) x k).1.length = v.mem.length := h2.len
        repeat' ((conv => whnf); first | refine And.intro (fun h => h) ?_ | refine dcond_t (by assumption) ?_ | refine dcond_f (by assumption) ?_ | (refine dcond_intro ?_ ?_ <;> intro h) | exact .refl | refine And.intro (by kernel_rfl) ?_ | refine And.intro ⟨fun h => h, fun h => h⟩ ?_ | refine Exists.intro false ?_ | (refine And.intro ?_ ?_; focus (simp; done)) | fail)
        all_goals (conv => whnf)
        · have hkl : k < v.mem.length := by
            have := of_decide_eq_true h
            rw [List.length_map, hyl] at this
            omega
          clear h hend
          generalize tckA v (dnB D) x k = y at *
          obtain ⟨r1, r2, r3, r4, r5⟩ := h2.st k hkl
          have hw0 : 0 ≤ IntKind.u64.wrap (k : Int) := by rw [wrap_un (by omega)]; omega
          have hla : k < (y.1.map agrE).length := by rw [List.length_map, hyl]; exact hkl
          have hga := nth_get (S := y.1) (i := k) (by rw [hyl]; exact hkl)
          have eT := c_agreement_Tick (nthA y.1 k) (sm_aw r3)
          have lT := tick_ps (nthA y.1 k)
          have hnot := dnB_not hD k
          unfold tck at hnx
          cases hd : dnB D k
          · rw [hd, cond_false] at hnx
            rw [hd, Bool.not_false] at hnot
            generalize tickA (nthA y.1 k) = Z at *
            have hly : y.2.length ≤ 250000 := by have := (wts_le y.2).1; omega
            have espr := m_spread v (by omega) y.2 Z.2 (by omega) (by omega)
            repeat' ((conv => whnf); first | refine And.intro (fun h => h) ?_ | refine dcond_t (by assumption) ?_ | refine dcond_f (by assumption) ?_ | (refine dcond_intro ?_ ?_ <;> intro h) | exact .refl | refine And.intro (by kernel_rfl) ?_ | refine And.intro ⟨fun h => h, fun h => h⟩ ?_ | refine And.intro hw0 ?_ | refine dcond_t hnot ?_ | refine ⟨k, And.intro ⟨rfl, hla⟩ ?_⟩ | refine ⟨agrE (nthA y.1 k), And.intro hga ?_⟩ | refine ⟨agrE (nthA y.1 k), hga, ?_⟩ | refine .inl ⟨_, _, DleAll_refl _, eT, ?_⟩ | refine ⟨_, _, DleAll_refl _, fun _ => eT, ?_⟩ | refine ⟨_, _, DleAll_refl _, eT, ?_⟩ | refine .inr ⟨[2], _, _, _, _, _, espr, by rfl, ⟨.refl, trivial⟩, ⟨.refl, .refl, .refl, trivial⟩, ?_⟩ | refine Exists.intro false ?_ | (refine And.intro ?_ ?_; focus (simp; done)) | fail)
            all_goals (conv => whnf)
            refine ⟨k + 1, hkl, by simp only []; omega, ?_⟩
            conv => whnf
            refine ⟨⟨.refl, .refl, .refl, .refl, dle_int (wrap_succ (by omega)), trivial⟩, ⟨.refl, ole_row ?_, ole_row ?_, trivial⟩, by rfl⟩
            · rw [hnx]
              exact row_set
            · rw [hnx]
          · rw [hd, cond_true] at hnx
            rw [hd, Bool.not_true] at hnot
            repeat' ((conv => whnf); first | refine And.intro (fun h => h) ?_ | refine dcond_t (by assumption) ?_ | refine dcond_f (by assumption) ?_ | (refine dcond_intro ?_ ?_ <;> intro h) | exact .refl | refine And.intro (by kernel_rfl) ?_ | refine And.intro ⟨fun h => h, fun h => h⟩ ?_ | refine And.intro hw0 ?_ | refine dcond_f hnot ?_ | refine Exists.intro false ?_ | (refine And.intro ?_ ?_; focus (simp; done)) | fail)
            all_goals (conv => whnf)
            refine ⟨k + 1, hkl, by simp only []; omega, ?_⟩
            conv => whnf
            refine ⟨⟨.refl, .refl, .refl, .refl, dle_int (wrap_succ (by omega)), trivial⟩, ⟨.refl, ole_row ?_, ole_row ?_, trivial⟩, by rfl⟩
            · rw [hnx]
            · rw [hnx]
        · have hke : k = v.mem.length := by
            have := of_decide_eq_false h
            rw [List.length_map, hyl] at this
            omega
          clear h
          rw [hend hke]
          exact ⟨.refl, ⟨.dead, .refl, .refl, trivial⟩, by rfl⟩
end Go.Proofs.Ytmbniilpgbjcfaa

set_option maxRecDepth 100000
namespace Go.Proofs.Ytmbniilpgbjcfaa
open Go.Lift
def u8E (n : Nat) : List DV := [.v (.int .u8 n)]
def zA : List DV := [i64 0, i64 0, .nl, i64 0, i64 0, .nl, .nl, .nl, i64 0, i64 0, .nl, .nl, .nl, .nl, i64 0]
theorem fill_set2 {α : Type} {f : α → List DV} {R : List (List DV)} {l : List α} {i : Nat} {p : α} (h : i < l.length) : ((l.take (i + 1)).map f ++ R).set i (f p) = ((l.set i p).take (i + 1)).map f ++ R := by
  rw [List.set_append_left _ _ (by simp; omega), List.take_set, List.map_set]
theorem getD_at {l : List (List Int)} {k : Nat} (h : k < l.length) : l.getD k [] = l[k] := by simp [h]
theorem least {P : Nat → Prop} : ∀ n, (∃ i, i < n ∧ P i) → ∃ k, k < n ∧ P k ∧ ∀ i, i < n → P i → k ≤ i
  | 0, ⟨i, hi, _⟩ => absurd hi (Nat.not_lt_zero _)
  | n + 1, ⟨i, hi, hp⟩ => by
    by_cases h : ∃ i, i < n ∧ P i
    · obtain ⟨k, k1, k2, k3⟩ := least n h
      refine ⟨k, by omega, k2, fun j hj hpj => ?_⟩
      by_cases e : j < n
      · exact k3 j e hpj
      · omega
    · have hin : i = n := by
        by_cases e : i < n
        · exact absurd ⟨i, e, hp⟩ h
        · omega
      rw [hin] at hp
      refine ⟨n, by omega, hp, fun j hj hpj => ?_⟩
      by_cases e : j < n
      · exact absurd ⟨j, e, hpj⟩ h
      · omega
def upN (dn : Nat → Bool) (i : Nat) : Nat := ((List.range i).filter fun j => !dn j).length
theorem upN_succ (dn : Nat → Bool) (i : Nat) : upN dn (i + 1) = upN dn i + if dn i then 0 else 1 := by
  unfold upN
  rw [List.range_succ, List.filter_append, List.length_append]
  cases h : dn i <;> simp [h]
theorem upN_le (dn : Nat → Bool) (i : Nat) : upN dn i ≤ i := by
  have := List.length_filter_le (fun j => !dn j) (List.range i)
  rw [List.length_range] at this
  exact this
theorem ups_len (v : View) (dn : Nat → Bool) : (ups v dn).length = upN dn v.mem.length := by
  unfold ups upN
  rw [List.length_map]
set_option maxHeartbeats 16000000 in
theorem r_AgreeEnds (v : View) (hv : v.mem.length ≤ maxLen) (D : Int) (hD : 0 ≤ D) (ws : List Nat) (hw : ws.length ≤ maxLen) (hw8 : ∀ x ∈ ws, x ≤ 255) : Ret Try.prog 6 [.agg (viewE v), .v (.int .u16 D), .lst 1 (ws.map u8E) false] (.v (.bool true)) := by
  have e20 := c_law8_Cuts v hv
  have e21 := c_ref3_Valid v hv
  have hck := cuts_ok v
  generalize cutsR v = cuts at e20 hck
  refine ret_of_body (fn := Try.f6) (c := Try.f6.body.getD .skip) hm hT (by kernel_rfl) Try.func6 (by kernel_rfl) (by kernel_rfl) (by kernel_rfl) (by kernel_rfl) ?_
  repeat' ((conv => whnf); first | refine And.intro (fun h => h) ?_ | refine dcond_t (by assumption) ?_ | refine dcond_f (by assumption) ?_ | (refine dcond_intro ?_ ?_ <;> intro h) | exact .refl | refine And.intro (by kernel_rfl) ?_ | refine And.intro ⟨fun h => h, fun h => h⟩ ?_ | refine .inl ⟨_, _, DleAll_refl _, c_law10_awake, ?_⟩ | refine ⟨_, _, DleAll_refl _, fun _ => c_law10_awake, ?_⟩ | refine ⟨_, _, DleAll_refl _, c_law10_awake, ?_⟩ | refine .inl ⟨_, _, DleAll_refl _, e20, ?_⟩ | refine ⟨_, _, DleAll_refl _, fun _ => e20, ?_⟩ | refine ⟨_, _, DleAll_refl _, e20, ?_⟩ | refine .inl ⟨_, _, DleAll_refl _, e21, ?_⟩ | refine ⟨_, _, DleAll_refl _, fun _ => e21, ?_⟩ | refine ⟨_, _, DleAll_refl _, e21, ?_⟩ | refine Exists.intro false ?_ | (refine And.intro ?_ ?_; focus (simp; done)) | fail)
  all_goals (conv => whnf)
  have hs : viewB v = true ∧ v.mem.length ≤ 6 ∧ 0 < cuts.length ∧ v.mem.length ≤ ws.length := by
    simp only [List.length_map, Bool.or_eq_false_iff, decide_eq_false_iff_not, Bool.not_eq_false'] at h
    obtain ⟨⟨⟨h1, h2⟩, h3⟩, h4⟩ := h
    exact ⟨h1, by omega, by omega, by omega⟩
  clear h e20 e21
  obtain ⟨hvw, h6, hcp, hws⟩ := hs
  have hn := view_n hvw
  have hby : (v.mem.map intE).length * (tinfo tt 30).bytes ≤ 140737488355328 := by
    have e : (tinfo tt 30).bytes = 248 := by kernel_rfl
    rw [e, List.length_map]
    omega
  have hmx : (v.mem.map intE).length ≤ maxLen := by simpa using hv
  refine ⟨_, _, rfl, rfl, Nat.le_refl _, hby, hmx, ?_⟩
  repeat' ((conv => whnf); first | refine And.intro (fun h => h) ?_ | refine dcond_t (by assumption) ?_ | refine dcond_f (by assumption) ?_ | (refine dcond_intro ?_ ?_ <;> intro h) | exact .refl | refine And.intro (by kernel_rfl) ?_ | refine And.intro ⟨fun h => h, fun h => h⟩ ?_ | refine Exists.intro false ?_ | (refine And.intro ?_ ?_; focus (simp; done)) | fail)
  all_goals (conv => whnf)
  obtain ⟨cs, hcs⟩ : ∃ cs : Nat → List Int, cs = fun i => cuts.getD ((ws.getD i 0) % cuts.length) [] := ⟨_, rfl⟩
  have hcm : ∀ i, cs i ∈ cuts := fun i => by
    rw [hcs]
    have hlt : (ws.getD i 0) % cuts.length < cuts.length := Nat.mod_lt _ hcp
    simp only []
    rw [getD_at hlt]
    exact List.getElem_mem hlt
  have hca : ∀ i, appB v (cs i) = true := fun i => decide_eq_true (hck.2 _ (hcm i)).2
  have ini := fun i hi => @ini_spec v (dnB D) cs hvw h6 hca i hi
  have hlen := fun i (hi : i ≤ v.mem.length) => (ini i hi).1.elim fun g h => h.len
  have hrow0 : ∀ i, i ≤ v.mem.length → (iniA v (dnB D) cs i).1.length = v.mem.length := hlen
  refine ⟨Nat, fun i => ⟨[(1, .v (.int .u16 D)), (2, .lst 1 (ws.map u8E) false), (3, .lp 0 0), (7, .lst 1 (cuts.map cutE) false), (8, i64 v.mem.length), (9, i64 (upN (dnB D) i)), (10, .own 1), (11, .own 2), (12, i64 i)], [.cells 24 (viewE v), .row 30 15 (((iniA v (dnB D) cs i).1.take i).map agrE ++ List.replicate ((iniA v (dnB D) cs i).1.length - i) zA), .row 62 7 ((iniA v (dnB D) cs i).2.map pktE)]⟩, fun i => i ≤ v.mem.length, fun i => v.mem.length - i, [.slot 11 62 7], ⟨0, Nat.zero_le _, ?_⟩, ?_⟩
  · conv => whnf
    refine ⟨⟨.refl, .refl, .refl, .refl, dle_int (by simp), .refl, .refl, .refl, .refl, trivial⟩, ⟨.refl, ole_row ?_, .refl, trivial⟩, by rfl⟩
    rw [List.length_map, hrow0 0 (Nat.zero_le _)]
    rfl
  · intro i hi
    repeat' ((conv => whnf); first | refine And.intro (fun h => h) ?_ | refine dcond_t (by assumption) ?_ | refine dcond_f (by assumption) ?_ | (refine dcond_intro ?_ ?_ <;> intro h) | exact .refl | refine And.intro (by kernel_rfl) ?_ | refine And.intro ⟨fun h => h, fun h => h⟩ ?_ | refine Exists.intro false ?_ | (refine And.intro ?_ ?_; focus (simp; done)) | fail)
    all_goals (conv => whnf)
    · have hlt : i < v.mem.length := by simpa using h
      clear h
      obtain ⟨⟨g, hSI⟩, hst, hwt, _⟩ := ini i hi
      have hup := upN_succ (dnB D) i
      have hule := upN_le (dnB D) i
      have hnx : iniA v (dnB D) cs (i + 1) = bif dnB D i then iniA v (dnB D) cs i else ((iniA v (dnB D) cs i).1.set i (propA (stA v (mI v i)) (cs i)).1, (iniA v (dnB D) cs i).2 ++ spreadR v (propA (stA v (mI v i)) (cs i)).2.1) := rfl
      have hst := hst i (Nat.le_refl _) hlt
      generalize iniA v (dnB D) cs i = x at *
      have hxl := hSI.len
      have hil : i < x.1.length := by omega
      have hxi : x.1[i] = stA v (mI v i) := by
        unfold nthA at hst
        simpa [hil] using hst
      have hlen1 := fill_len (f := agrE) (z := zA) (l := x.1) (i := i) (by omega)
      have hl0 : i < ((x.1.take i).map agrE ++ List.replicate (x.1.length - i) zA).length := by omega
      have hget := fill_get (f := agrE) (z := zA) hil
      have hset := fill_set (f := agrE) (z := zA) hil
      rw [hxi] at hset
      have hin := in_of_mem (mI_mem (v := v) hlt)
      have hmv : v.mem[i] = mI v i := by
        unfold mI
        simp [hlt]
      have e9 := c_agreement_New v (by omega) (mI v i)
      rw [new_in hvw hin] at e9
      have hgm : (v.mem.map intE)[i]? = some (intE (mI v i)) := by rw [← hmv]; exact get_map hlt
      have hw0 : 0 ≤ IntKind.u64.wrap (i : Int) := by rw [wrap_un (by omega)]; omega
      obtain ⟨p1, _⟩ := prop_first hvw hin (hca i)
      have hcl := hck.2 _ (hcm i)
      have eP := c_agreement_Propose (stA v (mI v i)) (sm_aw (aw_new hvw hin)) (cs i) (by omega)
      have lP := prop_ps (stA v (mI v i)) (cs i)
      rw [p1] at eP
      have hwlt : i < ws.length := by omega
      obtain ⟨K, hK⟩ : ∃ K, K = (ws.getD i 0) % cuts.length := ⟨_, rfl⟩
      have hKl : K < cuts.length := by rw [hK]; exact Nat.mod_lt _ hcp
      have hwi : ws.getD i 0 = ws[i] := by simp [hwlt]
      have hw255 := hw8 _ (List.getElem_mem hwlt)
      have hgw : (ws.map u8E)[i]? = some (u8E ws[i]) := get_map hwlt
      have hnec : ((cuts.map cutE).length : Int) ≠ 0 := by rw [List.length_map]; omega
      have hixw : (IntKind.i64.wrap (ws[i] : Int)).tmod ((cuts.map cutE).length : Int) = (K : Int) := by
        rw [List.length_map, wrap_i64 (by omega) (by omega), hK, hwi]
        rfl
      have hgc : (cuts.map cutE)[K]? = some (cutE (cs i)) := by
        rw [hcs]
        simp only []
        rw [← hK]
        simp [hKl]
      have hx2 : x.2.length ≤ 3000 := by have := (wts_le x.2).1; omega
      generalize ws[i] = wi at *
      have hset2 := fun p => fill_set2 (f := agrE) (R := List.replicate (x.1.length - (i + 1)) zA) (p := p) hil
      generalize stA v (mI v i) = N at *
      generalize mI v i = mm at *
      cases hd : dnB D i
      · rw [hd, cond_false] at hnx
        rw [hd, if_neg (by simp)] at hup
        generalize propA N (cs i) = X at *
        generalize cs i = cc at *
        have espr := m_spread v (by omega) x.2 X.2.1 (by omega) (by omega)
        have hset2 := hset2 X.1
        have hl1 : i < ((x.1.take (i + 1)).map agrE ++ List.replicate (x.1.length - (i + 1)) zA).length := by rw [← hset, List.length_set]; exact hl0
        have hrr : ∀ a : List DV, (((x.1.take i).map agrE ++ List.replicate (x.1.length - i) zA).set i (agrE N))[i]? = some (agrE N) := fun _ => by
          rw [List.getElem?_set_self hl0]
        have hl2 : i < (((x.1.take i).map agrE ++ List.replicate (x.1.length - i) zA).set i (agrE N)).length := by rw [List.length_set]; exact hl0
        repeat' ((conv => whnf); first | refine And.intro (fun h => h) ?_ | refine dcond_t (by assumption) ?_ | refine dcond_f (by assumption) ?_ | (refine dcond_intro ?_ ?_ <;> intro h) | exact .refl | refine And.intro (by kernel_rfl) ?_ | refine And.intro ⟨fun h => h, fun h => h⟩ ?_ | refine ⟨i, intE mm, And.intro ⟨rfl, hgm⟩ ?_⟩ | refine .inl ⟨_, _, DleAll_refl _, e9, ?_⟩ | refine ⟨_, _, DleAll_refl _, fun _ => e9, ?_⟩ | refine ⟨_, _, DleAll_refl _, e9, ?_⟩ | refine ⟨i, And.intro ⟨rfl, hl0⟩ ?_⟩ | refine ⟨zA, And.intro hget ?_⟩ | refine ⟨zA, hget, ?_⟩ | refine And.intro hw0 ?_ | refine dcond_f hd ?_ | refine ⟨i, u8E wi, And.intro ⟨rfl, hgw⟩ ?_⟩ | refine And.intro hnec ?_ | refine ⟨K, cutE cc, And.intro ⟨hixw, hgc⟩ ?_⟩ | refine .inl ⟨_, _, DleAll_refl _, eP, ?_⟩ | refine ⟨_, _, DleAll_refl _, fun _ => eP, ?_⟩ | refine ⟨_, _, DleAll_refl _, eP, ?_⟩ | refine ⟨i, And.intro ⟨rfl, hl2⟩ ?_⟩ | refine ⟨agrE N, hrr [], ?_⟩ | refine .inr ⟨[2], _, _, _, _, _, espr, by rfl, ⟨.refl, trivial⟩, ⟨.refl, .refl, .refl, trivial⟩, ?_⟩ | refine Exists.intro false ?_ | (refine And.intro ?_ ?_; focus (simp; done)) | fail)
        all_goals (conv => whnf)
        refine ⟨i + 1, hlt, by simp only []; omega, ?_⟩
        conv => whnf
        refine ⟨⟨.refl, .refl, .refl, .refl, .refl, dle_int ?_, .refl, .refl, dle_int (wrap_succ (by omega)), trivial⟩, ⟨.refl, ole_row ?_, ole_row ?_, trivial⟩, by rfl⟩
        · rw [hup]
          exact wrap_succ (by omega)
        · rw [hnx]
          simp only [List.length_set]
          rw [← hset2, ← hset]
          rfl
        · rw [hnx]
      · rw [hd, cond_true] at hnx
        rw [hd, if_pos rfl] at hup
        repeat' ((conv => whnf); first | refine And.intro (fun h => h) ?_ | refine dcond_t (by assumption) ?_ | refine dcond_f (by assumption) ?_ | (refine dcond_intro ?_ ?_ <;> intro h) | exact .refl | refine And.intro (by kernel_rfl) ?_ | refine And.intro ⟨fun h => h, fun h => h⟩ ?_ | refine ⟨i, intE mm, And.intro ⟨rfl, hgm⟩ ?_⟩ | refine .inl ⟨_, _, DleAll_refl _, e9, ?_⟩ | refine ⟨_, _, DleAll_refl _, fun _ => e9, ?_⟩ | refine ⟨_, _, DleAll_refl _, e9, ?_⟩ | refine ⟨i, And.intro ⟨rfl, hl0⟩ ?_⟩ | refine ⟨zA, And.intro hget ?_⟩ | refine ⟨zA, hget, ?_⟩ | refine And.intro hw0 ?_ | refine dcond_t hd ?_ | refine Exists.intro false ?_ | (refine And.intro ?_ ?_; focus (simp; done)) | fail)
        all_goals (conv => whnf)
        refine ⟨i + 1, hlt, by simp only []; omega, ?_⟩
        conv => whnf
        refine ⟨⟨.refl, .refl, .refl, .refl, .refl, dle_int ?_, .refl, .refl, dle_int (wrap_succ (by omega)), trivial⟩, ⟨.refl, ole_row ?_, ole_row ?_, trivial⟩, by rfl⟩
        · rw [hup]
          rfl
        · rw [hnx, ← hset]
          rfl
        · rw [hnx]
    · rename_i h0
      have hin : i = v.mem.length := by
        have := of_decide_eq_false h0
        omega
      clear h0
      subst hin
      obtain ⟨⟨g, hSI⟩, _, hwt, hini⟩ := ini v.mem.length (Nat.le_refl _)
      have hmaj : v.mem.length / 2 + 1 ≤ (ups v (dnB D)).length := by
        have h1 := of_decide_eq_false h
        have e2 : Int.tdiv (v.mem.length : Int) 2 = ((v.mem.length / 2 : Nat) : Int) := rfl
        rw [e2, wrap_i64 (n := ((v.mem.length / 2 : Nat) : Int)) (by omega) (by omega), wrap_i64 (by omega) (by omega)] at h1
        rw [ups_len]
        omega
      clear h
      have hup1 : ∃ i, i < v.mem.length ∧ dnB D i = false := by
        rw [ups_len] at hmaj
        unfold upN at hmaj
        obtain ⟨y, hy⟩ := List.exists_mem_of_length_pos (l := (List.range v.mem.length).filter fun j => !dnB D j) (by omega)
        obtain ⟨y1, y2⟩ := List.mem_filter.1 hy
        exact ⟨y, List.mem_range.1 y1, by simpa using y2⟩
      obtain ⟨k0, hk1, hk2, hk3⟩ := least v.mem.length hup1
      have hk : Up v (dnB D) k0 := ⟨hk1, hk2⟩
      have hle : ∀ i, Up v (dnB D) i → k0 ≤ i := fun i hi => hk3 i hi.1 hi.2
      obtain ⟨ρ, hρ⟩ : ∃ ρ, ρ = 1024 + mI v k0 := ⟨_, rfl⟩
      have hJ0 : Jn v (dnB D) k0 ρ 0 (iniA v (dnB D) cs v.mem.length).1 (iniA v (dnB D) cs v.mem.length).2 := by
        rcases hini with ⟨a, ha, hda, hdec, hfl⟩ | ⟨hu, hkk⟩
        · exact .inr (.inl ⟨⟨a, ⟨ha, hda⟩, hdec, hfl⟩, Nat.zero_le _⟩)
        · exact .inr (.inr (.inl ⟨by omega, fun a ha => hu a ha.1 ha.2 ρ, fun q hq => .inl (hkk q hq)⟩))
      have hxl := hSI.len
      have hrow : ((iniA v (dnB D) cs v.mem.length).1.take v.mem.length).map agrE ++ List.replicate ((iniA v (dnB D) cs v.mem.length).1.length - v.mem.length) zA = (iniA v (dnB D) cs v.mem.length).1.map agrE := by
        have h9 := fill_end (f := agrE) (z := zA) (l := (iniA v (dnB D) cs v.mem.length).1)
        rw [hxl] at h9
        rw [hxl]
        exact h9
      rw [hrow]
      clear hrow hini ini hlen hrow0 hca hcm hcs
      generalize iniA v (dnB D) cs v.mem.length = X at *
      refine ⟨Nat × List Agr × List Pkt, fun y => ⟨[(1, .v (.int .u16 D)), (3, .lp 0 0), (8, i64 v.mem.length), (10, .own 1), (11, .own 2), (18, i64 y.1)], [.cells 24 (viewE v), .row 30 15 (y.2.1.map agrE), .row 62 7 (y.2.2.map pktE)]⟩, fun y => y.1 ≤ 16 + 6 * v.mem.length ∧ ∃ g, SI v y.2.1 y.2.2 g ∧ wts y.2.2 + phis y.2.1 ≤ 200000 ∧ Jn v (dnB D) k0 ρ y.1 y.2.1 y.2.2, fun y => 16 + 6 * v.mem.length - y.1, [.home 10 1, .home 11 2], ⟨(0, X.1, X.2), ⟨Nat.zero_le _, g, hSI, by simp only []; omega, hJ0⟩, ?_⟩, ?_⟩
      · conv => whnf
        exact ⟨⟨.refl, .refl, .refl, .refl, .refl, .refl, trivial⟩, ⟨.refl, .refl, .refl, trivial⟩, by rfl⟩
      · clear hSI hwt hJ0 hxl
        intro ⟨t, S, fly⟩ ⟨ht, g, hSI, hwt, hJ⟩
        simp only at ht hSI hwt hJ
        have er := m_round v hvw h6 D hD S fly g hSI hwt
        have hnx := jn_step hvw hk hle hρ hmaj hSI hJ
        obtain ⟨g2, hSI2⟩ := si_round (dn := dnB D) hvw hSI
        have hwt2 := round_w (dn := dnB D) hvw h6 hSI hwt
        generalize roundR v (dnB D) S fly = Y at *
        have hlim : IntKind.i64.wrap (IntKind.i64.wrap (8 + IntKind.i64.wrap (6 * (v.mem.length : Int))) + 8) = ((16 + 6 * v.mem.length : Nat) : Int) := by
          rw [wrap_i64 (n := 6 * (v.mem.length : Int)) (by omega) (by omega), wrap_i64 (n := 8 + 6 * (v.mem.length : Int)) (by omega) (by omega), wrap_i64 (by omega) (by omega)]
          omega
        repeat' ((conv => whnf); first | refine And.intro (fun h => h) ?_ | refine dcond_t (by assumption) ?_ | refine dcond_f (by assumption) ?_ | (refine dcond_intro ?_ ?_ <;> intro h) | exact .refl | refine And.intro (by kernel_rfl) ?_ | refine And.intro ⟨fun h => h, fun h => h⟩ ?_ | refine .inr ⟨[], [], _, [], _, _, er, by rfl, trivial, ⟨.refl, .refl, .refl, .refl, trivial⟩, ?_⟩ | refine Exists.intro false ?_ | (refine And.intro ?_ ?_; focus (simp; done)) | fail)
        all_goals (conv => whnf)
        · have htl : t + 1 ≤ 16 + 6 * v.mem.length := by
            have h1 := of_decide_eq_true h
            rw [hlim] at h1
            omega
          clear h
          refine ⟨(t + 1, Y.1, Y.2), ⟨htl, g2, hSI2, hwt2, hnx⟩, by simp only []; omega, ?_⟩
          conv => whnf
          exact ⟨⟨.refl, .refl, .refl, .refl, .refl, dle_int (wrap_succ (by omega)), trivial⟩, ⟨.refl, .refl, .refl, trivial⟩, by rfl⟩
        · have htl : 16 + 6 * v.mem.length ≤ t := by
            have h1 := of_decide_eq_false h
            rw [hlim] at h1
            omega
          clear h er hnx hSI2 hwt2
          have hall := jn_end hk hJ htl
          refine ⟨Nat × List Int, fun y => ⟨[(1, .v (.int .u16 D)), (8, i64 v.mem.length), (10, .own 1), (20, .lst 1 (y.2.map intE) false), (21, i64 y.1)], [.cells 24 (viewE v), .row 30 15 (S.map agrE)]⟩, fun y => y.1 ≤ v.mem.length ∧ y.2.length ≤ 32 ∧ (y.2 ≠ [] → Dec v g y.2), fun y => v.mem.length - y.1, [], ⟨(0, []), ⟨Nat.zero_le _, Nat.zero_le _, fun e => absurd rfl e⟩, ?_⟩, ?_⟩
          · conv => whnf
            exact ⟨⟨.refl, .refl, .refl, .nl, .refl, trivial⟩, ⟨.refl, .refl, trivial⟩, by rfl⟩
          · intro ⟨i, d⟩ ⟨hi, hdl, hdd⟩
            simp only at hi hdl hdd
            repeat' ((conv => whnf); first | refine And.intro (fun h => h) ?_ | refine dcond_t (by assumption) ?_ | refine dcond_f (by assumption) ?_ | (refine dcond_intro ?_ ?_ <;> intro h) | exact .refl | refine And.intro (by kernel_rfl) ?_ | refine And.intro ⟨fun h => h, fun h => h⟩ ?_ | refine Exists.intro false ?_ | (refine And.intro ?_ ?_; focus (simp; done)) | fail)
            all_goals (conv => whnf)
            · have hil : i < v.mem.length := by simpa using h
              clear h
              have hw0 : 0 ≤ IntKind.u64.wrap (i : Int) := by rw [wrap_un (by omega)]; omega
              have hla : i < (S.map agrE).length := by rw [List.length_map, hSI.len]; exact hil
              have hga := nth_get (S := S) (i := i) (by rw [hSI.len]; exact hil)
              obtain ⟨u1, u2, u3, u4, u5⟩ := hSI.st i hil
              have hul := good_len u3.dec
              cases hd : dnB D i
              · have hne := hall i ⟨hil, hd⟩
                have hDz := u5.re.dec hne
                have eS := c_law10_same d (nthA S i).dec (by simp only [maxLen]; omega)
                have hcn : (decide ((((nthA S i).dec.map intE).length : Int) = 0) || (decide (0 < ((d.map intE).length : Int)) && !sameI d (nthA S i).dec)) = false := by
                  have h1 : decide ((((nthA S i).dec.map intE).length : Int) = 0) = false := by
                    rw [List.length_map]
                    cases hz : decide (((nthA S i).dec.length : Int) = 0)
                    · rfl
                    · exact absurd (len0.1 hz) hne
                  rw [h1, Bool.false_or, List.length_map]
                  by_cases e : d = []
                  · rw [e]
                    rfl
                  · rw [dec_same hn.1 hSI.inv (hdd e) hDz, sameI_refl]
                    simp
                generalize nthA S i = Z at *
                generalize sameI d Z.dec = Q at *
                repeat' ((conv => whnf); first | refine And.intro (fun h => h) ?_ | refine dcond_t (by assumption) ?_ | refine dcond_f (by assumption) ?_ | (refine dcond_intro ?_ ?_ <;> intro h) | exact .refl | refine And.intro (by kernel_rfl) ?_ | refine And.intro ⟨fun h => h, fun h => h⟩ ?_ | refine And.intro hw0 ?_ | refine dcond_f hd ?_ | refine dcond_f hcn ?_ | refine ⟨i, And.intro ⟨rfl, hla⟩ ?_⟩ | refine ⟨agrE Z, And.intro hga ?_⟩ | refine ⟨i, And.intro ⟨⟨fun h => h, fun h => h⟩, fun _ => ⟨rfl, hla⟩⟩ ?_⟩ | refine ⟨agrE Z, And.intro ⟨fun h => h, fun _ => hga⟩ ?_⟩ | refine .inl ⟨_, _, DleAll_refl _, eS, ?_⟩ | refine ⟨_, _, DleAll_refl _, fun _ => eS, ?_⟩ | refine ⟨_, _, DleAll_refl _, eS, ?_⟩ | refine Exists.intro false ?_ | (refine And.intro ?_ ?_; focus (simp; done)) | fail)
                all_goals (conv => whnf)
                refine ⟨(i + 1, Z.dec), ⟨hil, hul, fun _ => hDz⟩, by simp only []; omega, ?_⟩
                conv => whnf
                exact ⟨⟨.refl, .refl, .refl, .refl, dle_int (wrap_succ (by omega)), trivial⟩, ⟨.refl, .refl, trivial⟩, by rfl⟩
              · repeat' ((conv => whnf); first | refine And.intro (fun h => h) ?_ | refine dcond_t (by assumption) ?_ | refine dcond_f (by assumption) ?_ | (refine dcond_intro ?_ ?_ <;> intro h) | exact .refl | refine And.intro (by kernel_rfl) ?_ | refine And.intro ⟨fun h => h, fun h => h⟩ ?_ | refine And.intro hw0 ?_ | refine dcond_t hd ?_ | refine Exists.intro false ?_ | (refine And.intro ?_ ?_; focus (simp; done)) | fail)
                all_goals (conv => whnf)
                refine ⟨(i + 1, d), ⟨hil, hdl, hdd⟩, by simp only []; omega, ?_⟩
                conv => whnf
                exact ⟨⟨.refl, .refl, .refl, .refl, dle_int (wrap_succ (by omega)), trivial⟩, ⟨.refl, .refl, trivial⟩, by rfl⟩
end Go.Proofs.Ytmbniilpgbjcfaa

set_option maxRecDepth 100000
namespace Go.Proofs.Ytmbniilpgbjcfaa
open Go.Lift
theorem dat_u8s {n : Nat} {r : List DV} (h : Dat tt (n + 2) 66 r) : ∃ l : List Nat, r = [.lst 1 (l.map u8E) false] ∧ l.length ≤ maxLen ∧ ∀ x ∈ l, x ≤ 255 := by
  obtain ⟨es, rfl, hl, hes⟩ := h
  obtain ⟨d, rfl, hd⟩ := list_data (f := u8E) (Q := fun x => x ≤ 255) (fun r hr => by
    obtain ⟨i, rfl, hi⟩ := hes r hr
    have hb := bounds_u8 (by exact hi)
    exact ⟨i.toNat, by simp only [u8E]; rw [Int.toNat_of_nonneg (by omega)], by omega⟩)
  exact ⟨d, rfl, by simpa using hl, hd⟩
theorem law_AgreeEnds (dvs : List DV) (h : DatAll tt 6 [24, 57, 66] dvs) : Ret Try.prog 6 dvs (.v (.bool true)) := by
  obtain ⟨a1, _, rfl, h1, a2, _, rfl, ⟨D, rfl, hD⟩, a3, _, rfl, h3, rfl⟩ := h
  obtain ⟨v, rfl, hv⟩ := dat_view (n := 3) h1
  have hb := bounds_u16 (by exact hD)
  obtain ⟨l, rfl, hl, hl8⟩ := dat_u8s (n := 4) h3
  exact r_AgreeEnds v hv D hb.1 l hl hl8
end Go.Proofs.Ytmbniilpgbjcfaa
