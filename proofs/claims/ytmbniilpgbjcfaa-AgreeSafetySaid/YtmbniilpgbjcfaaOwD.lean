/- The laws of this seat, part OwD: contracts of the functions, plain laws. No conditions. -/
import Derived.Test.YtmbniilpgbjcfaaOwC
set_option linter.unusedSimpArgs false
set_option linter.unusedVariables false
set_option maxRecDepth 100000
namespace Go.Proofs.Ytmbniilpgbjcfaa
open Go.Lift
def cutE (c : List Int) : List DV := [.lst 1 (c.map intE) false]
theorem fitsC {n : Nat} (h : n ≤ 2000000) : fitsIn tt 22 n := by
  have e : (tinfo tt 22).bytes = 24 := by kernel_rfl
  refine ⟨?_, ?_⟩
  · rw [e]; omega
  · simp only [maxLen]; omega
def oneCuts (v : View) : Nat → List (List Int)
  | 0 => []
  | i + 1 => bif decide ((oneCuts v i).length < 2) && decide ((nextR v [v.mem.getD i 0]).2 = 0) then oneCuts v i ++ [[v.mem.getD i 0]] else oneCuts v i
theorem one_len (v : View) (i : Nat) : (oneCuts v i).length ≤ 2 := by
  induction i with
  | zero => simp [oneCuts]
  | succ i ih =>
    simp only [oneCuts]
    cases h : decide ((oneCuts v i).length < 2) && decide ((nextR v [v.mem.getD i 0]).2 = 0)
    · exact ih
    · simp only [Bool.and_eq_true, decide_eq_true_eq] at h
      simp; omega
def AppAll (v : View) (L : List (List Int)) : Prop := ∀ c ∈ L, (nextR v c).2 = 0
theorem one_app (v : View) (i : Nat) : AppAll v (oneCuts v i) := by
  induction i with
  | zero => intro c hc; cases hc
  | succ i ih =>
    simp only [oneCuts]
    cases h : decide ((oneCuts v i).length < 2) && decide ((nextR v [v.mem.getD i 0]).2 = 0)
    · exact ih
    · simp only [Bool.and_eq_true, decide_eq_true_eq] at h
      intro c hc
      simp only [cond_true, List.mem_append, List.mem_singleton] at hc
      rcases hc with hc | rfl
      · exact ih c hc
      · exact h.2
theorem one_stop {v : View} {i : Nat} (h : 2 ≤ (oneCuts v i).length) : ∀ d, oneCuts v (i + d) = oneCuts v i
  | 0 => rfl
  | d + 1 => by
    have e : oneCuts v (i + (d + 1)) = bif decide ((oneCuts v (i + d)).length < 2) && decide ((nextR v [v.mem.getD (i + d) 0]).2 = 0) then oneCuts v (i + d) ++ [[v.mem.getD (i + d) 0]] else oneCuts v (i + d) := rfl
    rw [e, one_stop h d]
    have : decide ((oneCuts v i).length < 2) = false := decide_eq_false (by omega)
    rw [this]
    rfl
def freshQ (v : View) (k : Nat) : Bool := !inB v.mem (k : Int) && decide ((nextR v [(k : Int)]).2 = 0)
def freshAt (v : View) : Option Nat := ((List.range 1000).map (· + 1)).find? (freshQ v)
def cutsR (v : View) : List (List Int) := match freshAt v with
  | some k => oneCuts v v.mem.length ++ [[(k : Int)]]
  | none => oneCuts v v.mem.length
theorem c_ref3_Next_bad (v : View) (hv : v.mem.length ≤ maxLen) (hb : viewB v = false) (cut : List Int) : Ret Try.prog 83 [.agg (viewE v), .lst 1 (cut.map intE) false] (.tup [.agg (viewE ⟨0, []⟩), .v (.int .i64 1)]) := by
  have e := c_ref3_Valid v hv
  rw [hb] at e
  refine ret_of_body (fn := Try.f83) (c := Try.f83.body.getD .skip) hm hT (by kernel_rfl) Try.func83 (by kernel_rfl) (by kernel_rfl) (by kernel_rfl) (by kernel_rfl) ?_
  repeat' ((conv => whnf); first | refine And.intro (fun h => h) ?_ | refine dcond_t (by assumption) ?_ | refine dcond_f (by assumption) ?_ | (refine dcond_intro ?_ ?_ <;> intro h) | exact .refl | refine And.intro (by kernel_rfl) ?_ | refine And.intro ⟨fun h => h, fun h => h⟩ ?_ | refine .inl ⟨_, _, DleAll_refl _, e, ?_⟩ | refine ⟨_, _, DleAll_refl _, fun _ => e, ?_⟩ | refine ⟨_, _, DleAll_refl _, e, ?_⟩ | refine ⟨_, _, DleAll_refl _, fun h => Bool.noConfusion h, ?_⟩ | refine ⟨_, .v (.bool false), DleAll_refl _, fun h => Bool.noConfusion h, ?_⟩ | refine Exists.intro false ?_ | (refine And.intro ?_ ?_; focus (simp; done)) | fail)
  all_goals (conv => whnf)
  exact dle_tupA ⟨dle_aggA ⟨.refl, .nl, trivial⟩, .refl, trivial⟩
theorem c_ref3_Applicable_any (v : View) (hv : v.mem.length ≤ maxLen) (cut : List Int) (hc : cut.length ≤ 500000) : Ret Try.prog 57 [.agg (viewE v), .lst 1 (cut.map intE) false] (.v (.bool (decide ((nextR v cut).2 = 0)))) := by
  cases hb : viewB v
  · have e : decide ((nextR v cut).2 = 0) = false := by simp [nextR, hb]
    rw [e]
    refine ret_of_body (fn := Try.f57) (c := Try.f57.body.getD .skip) hm hT (by kernel_rfl) Try.func57 (by kernel_rfl) (by kernel_rfl) (by kernel_rfl) (by kernel_rfl) ?_
    repeat' ((conv => whnf); first | refine And.intro (fun h => h) ?_ | refine dcond_t (by assumption) ?_ | refine dcond_f (by assumption) ?_ | (refine dcond_intro ?_ ?_ <;> intro h) | exact .refl | refine And.intro (by kernel_rfl) ?_ | refine And.intro ⟨fun h => h, fun h => h⟩ ?_ | refine .inl ⟨_, _, DleAll_refl _, c_ref3_Next_bad _ hv hb _, ?_⟩ | refine ⟨_, _, DleAll_refl _, fun _ => c_ref3_Next_bad _ hv hb _, ?_⟩ | refine ⟨_, _, DleAll_refl _, c_ref3_Next_bad _ hv hb _, ?_⟩ | refine Exists.intro false ?_ | (refine And.intro ?_ ?_; focus (simp; done)) | fail)
  · refine c_ref3_Applicable v ?_ cut hc
    have hid : idsB v.mem 16 = true := by
      simp only [viewB, Bool.and_eq_true] at hb
      exact hb.2
    rw [ids_eq] at hid
    simp only [Bool.and_eq_true, decide_eq_true_eq] at hid
    omega
set_option maxRecDepth 100000 in
theorem c_law8_Cuts (v : View) (hv : v.mem.length ≤ maxLen) : Ret Try.prog 20 [.agg (viewE v)] (.lst 1 ((cutsR v).map cutE) false) := by
  have h1 : v.mem.length ≤ 9223372036854775807 := hv
  refine ret_of_body (fn := Try.f20) (c := Try.f20.body.getD .skip) hm hT (by kernel_rfl) Try.func20 (by kernel_rfl) (by kernel_rfl) (by kernel_rfl) (by kernel_rfl) ?_
  repeat' ((conv => whnf); first | refine And.intro (fun h => h) ?_ | refine dcond_t (by assumption) ?_ | refine dcond_f (by assumption) ?_ | (refine dcond_intro ?_ ?_ <;> intro h) | exact .refl | refine And.intro (by kernel_rfl) ?_ | refine And.intro ⟨fun h => h, fun h => h⟩ ?_ | refine Exists.intro false ?_ | (refine And.intro ?_ ?_; focus (simp; done)) | fail)
  refine ⟨Nat, fun i => ⟨[(1, .lp 0 0), (3, .own 1), (4, i64 i)], [.cells 24 (viewE v), .row 22 1 ((oneCuts v i).map cutE)]⟩, fun i => i ≤ v.mem.length, fun i => v.mem.length - i, [.slot 3 22 1], ⟨0, Nat.zero_le _, ?_⟩, ?_⟩
  · conv => whnf
    exact ⟨by repeat' ((conv => whnf); first | exact trivial | refine And.intro (by (conv => arg 1; whnf); first | (with_reducible exact .refl) | exact dle_int (wrap_succ (by omega)) | exact .refl) ?_), by repeat' ((conv => whnf); first | exact trivial | refine And.intro ?_ ?_ | exact .refl), rfl⟩
  · intro i hi
    have hol := one_len v i
    repeat' ((conv => whnf); first | refine And.intro (fun h => h) ?_ | refine dcond_t (by assumption) ?_ | refine dcond_f (by assumption) ?_ | (refine dcond_intro ?_ ?_ <;> intro h) | exact .refl | refine And.intro (by kernel_rfl) ?_ | refine And.intro ⟨fun h => h, fun h => h⟩ ?_ | refine Exists.intro false ?_ | (refine And.intro ?_ ?_; focus (simp; done)) | fail)
    · have hlt : i < v.mem.length := by
        simp at h
        omega
      have h2 : (oneCuts v i).length < 2 := by
        simp at h
        omega
      clear h
      have hg : v.mem.getD i 0 = v.mem[i] := by simp [hlt]
      have e44 := c_ref3_Applicable_any v hv [v.mem[i]] (by simp)
      have hsl : ((v.mem.map intE).take (i + 1)).drop i = [v.mem[i]].map intE := by
        rw [List.take_succ_eq_append_getElem (by simpa using hlt), List.drop_append_of_le_length (by simp; omega)]
        simp
      have hw : IntKind.i64.wrap ((i : Int) + 1) = ((i + 1 : Nat) : Int) := wrap_succ (by omega)
      have hlm : i + 1 ≤ (v.mem.map intE).length := by
        rw [List.length_map]
        exact hlt
      have hone : oneCuts v (i + 1) = bif decide ((oneCuts v i).length < 2) && decide ((nextR v [v.mem.getD i 0]).2 = 0) then oneCuts v i ++ [[v.mem.getD i 0]] else oneCuts v i := rfl
      rw [hg, decide_eq_true h2, Bool.true_and] at hone
      rw [← hsl] at e44
      generalize decide ((nextR v [v.mem[i]]).2 = 0) = ap at e44 hone
      repeat' ((conv => whnf); first | refine And.intro (fun h => h) ?_ | refine dcond_t (by assumption) ?_ | refine dcond_f (by assumption) ?_ | (refine dcond_intro ?_ ?_ <;> intro h) | exact .refl | refine And.intro (by kernel_rfl) ?_ | refine And.intro ⟨fun h => h, fun h => h⟩ ?_ | refine ⟨i, i + 1, And.intro ⟨⟨_, rfl⟩, ⟨.i64, congrArg (fun z => DV.v (.int .i64 z)) hw⟩, by omega, hlm⟩ ?_⟩ | refine .inl ⟨_, _, DleAll_refl _, e44, ?_⟩ | refine ⟨_, _, DleAll_refl _, fun _ => e44, ?_⟩ | refine ⟨_, _, DleAll_refl _, e44, ?_⟩ | refine Exists.intro false ?_ | (refine And.intro ?_ ?_; focus (simp; done)) | fail)
      all_goals (conv => whnf)
      · refine And.intro (fitsC (by simp; omega)) ?_
        repeat' ((conv => whnf); first | refine And.intro (fun h => h) ?_ | refine dcond_t (by assumption) ?_ | refine dcond_f (by assumption) ?_ | (refine dcond_intro ?_ ?_ <;> intro h) | exact .refl | refine And.intro (by kernel_rfl) ?_ | refine And.intro ⟨fun h => h, fun h => h⟩ ?_ | refine Exists.intro false ?_ | (refine And.intro ?_ ?_; focus (simp; done)) | fail)
        all_goals (conv => whnf)
        refine ⟨i + 1, hlt, by simp only []; omega, ?_⟩
        refine ⟨⟨.refl, .refl, dle_int hw, trivial⟩, ⟨.refl, ole_row ?_, trivial⟩, rfl⟩
        rw [hone, h, hsl]
        simp [cutE, dcells]
      · refine ⟨i + 1, hlt, by simp only []; omega, ?_⟩
        refine ⟨⟨.refl, .refl, dle_int hw, trivial⟩, ⟨.refl, ole_row ?_, trivial⟩, rfl⟩
        rw [hone, h]
        rfl
    · have he : oneCuts v i = oneCuts v v.mem.length := by
        simp at h
        rcases Nat.lt_or_ge i v.mem.length with h3 | h3
        · have h4 : 2 ≤ (oneCuts v i).length := by
            have := h (by omega)
            omega
          have := one_stop h4 (v.mem.length - i)
          rw [← this]
          congr 1
          omega
        · have : i = v.mem.length := by omega
          rw [this]
      clear h
      rw [he] at hol ⊢
      generalize hO : oneCuts v v.mem.length = O at hol he ⊢
      have hcr : cutsR v = match freshAt v with
        | some k => O ++ [[(k : Int)]]
        | none => O := by
        subst hO
        unfold cutsR
        generalize freshAt v = F
        cases F <;> rfl
      conv => whnf
      refine ⟨Nat, fun k => ⟨[(1, .lp 0 0), (3, .own 1), (5, i64 (k + 1 : Nat))], [.cells 24 (viewE v), .row 22 1 (O.map cutE)]⟩, fun k => k ≤ 1000 ∧ ∀ j, j < k → freshQ v (j + 1) = false, fun k => 1000 - k, [], ⟨0, ⟨by omega, by omega⟩, ?_⟩, ?_⟩
      · exact ⟨⟨.refl, .refl, dle_int rfl, trivial⟩, ⟨.refl, .refl, trivial⟩, rfl⟩
      · intro k ⟨hk, hall⟩
        have hkn : ((k + 1 : Nat) : Int) = (k : Int) + 1 := by omega
        repeat' ((conv => whnf); first | refine And.intro (fun h => h) ?_ | refine dcond_t (by assumption) ?_ | refine dcond_f (by assumption) ?_ | (refine dcond_intro ?_ ?_ <;> intro h) | exact .refl | refine And.intro (by kernel_rfl) ?_ | refine And.intro ⟨fun h => h, fun h => h⟩ ?_ | refine Exists.intro false ?_ | (refine And.intro ?_ ?_; focus (simp; done)) | fail)
        · have hlt : k < 1000 := by
            simp at h
            omega
          clear h
          have e45 := c_ref3_Contains v.mem hv ((k + 1 : Nat) : Int)
          have e44 := c_ref3_Applicable_any v hv [((k + 1 : Nat) : Int)] (by simp)
          have hfq : freshQ v (k + 1) = (!inB v.mem ((k + 1 : Nat) : Int) && decide ((nextR v [((k + 1 : Nat) : Int)]).2 = 0)) := rfl
          generalize inB v.mem ((k + 1 : Nat) : Int) = b1 at e45 hfq
          generalize decide ((nextR v [((k + 1 : Nat) : Int)]).2 = 0) = b2 at e44 hfq
          have next : freshQ v (k + 1) = false → k + 1 ≤ 1000 ∧ ∀ j, j < k + 1 → freshQ v (j + 1) = false := fun hf => ⟨hlt, fun j hj => by
            rcases Nat.lt_succ_iff_lt_or_eq.1 hj with hj | rfl
            · exact hall j hj
            · exact hf⟩
          have hw : IntKind.i64.wrap (((k + 1 : Nat) : Int) + 1) = ((k + 1 + 1 : Nat) : Int) := wrap_succ (by omega)
          repeat' ((conv => whnf); first | refine And.intro (fun h => h) ?_ | refine dcond_t (by assumption) ?_ | refine dcond_f (by assumption) ?_ | (refine dcond_intro ?_ ?_ <;> intro h) | exact .refl | refine And.intro (by kernel_rfl) ?_ | refine And.intro ⟨fun h => h, fun h => h⟩ ?_ | refine .inl ⟨_, _, DleAll_refl _, e45, ?_⟩ | refine ⟨_, _, DleAll_refl _, fun _ => e45, ?_⟩ | refine ⟨_, _, DleAll_refl _, e45, ?_⟩ | refine .inl ⟨_, _, DleAll_refl _, e44, ?_⟩ | refine ⟨_, _, DleAll_refl _, fun _ => e44, ?_⟩ | refine ⟨_, _, DleAll_refl _, e44, ?_⟩ | refine And.intro (fun hb => ?_) (fun hb => ?_) | refine ⟨[.agg (viewE v), .lst 1 (List.map intE [((k + 1 : Nat) : Int)]) false], _, ⟨.refl, .refl, trivial⟩, fun _ => e44, ?_⟩ | refine ⟨_, .v (.bool b2), DleAll_refl _, fun hc => Bool.noConfusion (hb.symm.trans hc), ?_⟩ | refine And.intro ⟨fun h => h, fun hc => Bool.noConfusion (hb.symm.trans hc)⟩ ?_ | refine And.intro (fitsC (by simp <;> omega)) ?_ | refine Exists.intro false ?_ | (refine And.intro ?_ ?_; focus (simp; done)) | fail)
          all_goals (conv => whnf)
          · have hf : freshAt v = some (k + 1) := by
              refine List.find?_eq_some_iff_getElem.2 ⟨hfq.trans h, k, by simp; omega, by simp, fun j hj => ?_⟩
              simp [hall j hj]
            rw [hf] at hcr
            refine dle_lst ?_
            rw [hcr]
            simp [cutE, dcells, intE]
            kernel_rfl
          · exact ⟨k + 1, next (hfq.trans h), by simp only []; omega, ⟨⟨.refl, .refl, dle_int hw, trivial⟩, ⟨.refl, .refl, trivial⟩, rfl⟩⟩
          · rw [hb] at h
            cases h
          · exact ⟨k + 1, next (hfq.trans h), by simp only []; omega, ⟨⟨.refl, .refl, dle_int hw, trivial⟩, ⟨.refl, .refl, trivial⟩, rfl⟩⟩
        · have hge : ¬ k < 1000 := by
            simp at h
            omega
          clear h
          have hf : freshAt v = none := List.find?_eq_none.2 fun x hx => by
            obtain ⟨y, hy, rfl⟩ := List.mem_map.1 hx
            have := hall y (by have := List.mem_range.1 hy; omega)
            simp [this]
          rw [hf] at hcr
          repeat' ((conv => whnf); first | refine And.intro (fun h => h) ?_ | refine dcond_t (by assumption) ?_ | refine dcond_f (by assumption) ?_ | (refine dcond_intro ?_ ?_ <;> intro h) | exact .refl | refine And.intro (by kernel_rfl) ?_ | refine And.intro ⟨fun h => h, fun h => h⟩ ?_ | refine Exists.intro false ?_ | (refine And.intro ?_ ?_; focus (simp; done)) | fail)
          all_goals (conv => whnf)
          refine dle_lst ?_
          rw [hcr]
theorem cuts_ok (v : View) : (cutsR v).length ≤ 3 ∧ ∀ c ∈ cutsR v, c.length = 1 ∧ (nextR v c).2 = 0 := by
  have h1 : ∀ i, ∀ c ∈ oneCuts v i, c.length = 1 := by
    intro i
    induction i with
    | zero => intro c hc; cases hc
    | succ i ih =>
      simp only [oneCuts]
      cases decide ((oneCuts v i).length < 2) && decide ((nextR v [v.mem.getD i 0]).2 = 0)
      · exact ih
      · intro c hc
        simp only [cond_true, List.mem_append, List.mem_singleton] at hc
        rcases hc with hc | rfl
        · exact ih c hc
        · rfl
  have h2 := one_app v v.mem.length
  have h3 := one_len v v.mem.length
  unfold cutsR
  cases hf : freshAt v with
  | none => exact ⟨by simp only []; omega, fun c hc => ⟨h1 _ c hc, h2 c hc⟩⟩
  | some k =>
    have hq : freshQ v k = true := List.find?_some hf
    simp only [freshQ, Bool.and_eq_true, decide_eq_true_eq] at hq
    refine ⟨by simp; omega, fun c hc => ?_⟩
    simp only [List.mem_append, List.mem_singleton] at hc
    rcases hc with hc | rfl
    · exact ⟨h1 _ c hc, h2 c hc⟩
    · exact ⟨rfl, hq.2⟩
end Go.Proofs.Ytmbniilpgbjcfaa

set_option maxRecDepth 100000
namespace Go.Proofs.Ytmbniilpgbjcfaa
open Go.Lift
theorem c_law10_same (a b : List Int) (ha : a.length ≤ maxLen) : Ret Try.prog 24 [.lst 1 (a.map intE) false, .lst 1 (b.map intE) false] (.v (.bool (sameI a b))) := by
  have hl' : a.length ≤ 9223372036854775807 := ha
  refine ret_of_body (fn := Try.f24) (c := Try.f24.body.getD .skip) hm hT (by kernel_rfl) Try.func24 (by kernel_rfl) (by kernel_rfl) (by kernel_rfl) (by kernel_rfl) ?_
  repeat' ((conv => whnf); first | refine And.intro (fun h => h) ?_ | refine dcond_t (by assumption) ?_ | refine dcond_f (by assumption) ?_ | (refine dcond_intro ?_ ?_ <;> intro h) | exact .refl | refine And.intro (by kernel_rfl) ?_ | refine And.intro ⟨fun h => h, fun h => h⟩ ?_ | refine Exists.intro false ?_ | (refine And.intro ?_ ?_; focus (simp; done)) | fail)
  · refine dle_bool ?_
    simp only [List.length_map] at h
    have h : decide ((a.length : Int) = (b.length : Int)) = false := by simpa using h
    simp only [sameI, h, Bool.false_and]
  · have h0 : a.length = b.length := by
      simp at h
      omega
    clear h
    conv => whnf
    refine ⟨Nat, fun i => ⟨[(0, .lst 1 (a.map intE) false), (1, .lst 1 (b.map intE) false), (5, i64 i)], []⟩, fun i => i ≤ a.length ∧ ∀ j, j < i → decide (a.getD j 0 = b.getD j 0) = true, fun i => a.length - i, [], ⟨0, ⟨Nat.zero_le _, by omega⟩, ?_⟩, ?_⟩
    · exact ⟨by repeat' ((conv => whnf); first | exact trivial | refine And.intro (by (conv => arg 1; whnf); first | (with_reducible exact .refl) | exact dle_int (wrap_succ (by omega)) | exact .refl) ?_), by repeat' ((conv => whnf); first | exact trivial | refine And.intro ?_ ?_ | exact .refl), rfl⟩
    · intro i ⟨hi, hall⟩
      repeat' ((conv => whnf); first | refine And.intro (fun h => h) ?_ | refine dcond_t (by assumption) ?_ | refine dcond_f (by assumption) ?_ | (refine dcond_intro ?_ ?_ <;> intro h) | exact .refl | refine And.intro (by kernel_rfl) ?_ | refine And.intro ⟨fun h => h, fun h => h⟩ ?_ | refine Exists.intro false ?_ | (refine And.intro ?_ ?_; focus (simp; done)) | fail)
      · have hlt : i < a.length := by simpa using h
        have hlt2 : i < b.length := by omega
        clear h
        have hg : a.getD i 0 = a[i] := by simp [hlt]
        have hg2 : b.getD i 0 = b[i] := by simp [hlt2]
        repeat' ((conv => whnf); first | refine And.intro (fun h => h) ?_ | refine dcond_t (by assumption) ?_ | refine dcond_f (by assumption) ?_ | (refine dcond_intro ?_ ?_ <;> intro h) | exact .refl | refine And.intro (by kernel_rfl) ?_ | refine And.intro ⟨fun h => h, fun h => h⟩ ?_ | refine ⟨_, _, And.intro ⟨rfl, get_map hlt⟩ ?_⟩ | refine ⟨_, _, And.intro ⟨rfl, get_map hlt2⟩ ?_⟩ | refine Exists.intro false ?_ | (refine And.intro ?_ ?_; focus (simp; done)) | fail)
        · refine dle_bool ?_
          rw [sameI, allB_false hlt (i := i), Bool.and_false]
          rw [hg, hg2]
          simpa using h
        · conv => whnf
          refine ⟨i + 1, ⟨hlt, fun j hj => ?_⟩, by simp only []; omega, ?_⟩
          · rcases Nat.lt_succ_iff_lt_or_eq.1 hj with hj | rfl
            · exact hall j hj
            · rw [hg, hg2]
              simpa using h
          · exact ⟨by repeat' ((conv => whnf); first | exact trivial | refine And.intro (by (conv => arg 1; whnf); first | (with_reducible exact .refl) | exact dle_int (wrap_succ (by omega)) | exact .refl) ?_), by repeat' ((conv => whnf); first | exact trivial | refine And.intro ?_ ?_ | exact .refl), rfl⟩
      · have hge : ¬ i < a.length := by simpa using h
        conv => whnf
        refine dle_bool ?_
        rw [sameI, allB_true.2 (fun j hj => hall j (by omega)), h0]
        simp
def pkt0 : Pkt := ⟨0, ⟨0, 0, 0, 0, 0, []⟩⟩
def hitB (v : View) (p : Pkt) (k : Nat) : Bool := decide (p.to = v.mem.getD k 0) || (decide (p.to = 0) && !decide (v.mem.getD k 0 = p.m.src))
def sprI (v : View) (p : Pkt) : Nat → List Pkt
  | 0 => []
  | k + 1 => bif hitB v p k then sprI v p k ++ [⟨v.mem.getD k 0, p.m⟩] else sprI v p k
def sprA (v : View) (ps : List Pkt) : Nat → List Pkt
  | 0 => []
  | i + 1 => sprA v ps i ++ sprI v (ps.getD i pkt0) v.mem.length
def spreadR (v : View) (ps : List Pkt) : List Pkt := sprA v ps ps.length
theorem sprI_len (v : View) (p : Pkt) : ∀ k, (sprI v p k).length ≤ k
  | 0 => Nat.le_refl _
  | k + 1 => by
    have := sprI_len v p k
    unfold sprI
    cases hitB v p k <;> simp <;> omega
theorem sprA_len (v : View) (ps : List Pkt) : ∀ i, (sprA v ps i).length ≤ i * v.mem.length
  | 0 => by simp [sprA]
  | i + 1 => by
    have h1 := sprA_len v ps i
    have h2 := sprI_len v (ps.getD i pkt0) v.mem.length
    unfold sprA
    rw [List.length_append, Nat.succ_mul]
    omega
theorem sprI_mem {v : View} {p f : Pkt} : ∀ {k}, k ≤ v.mem.length → f ∈ sprI v p k → f.m = p.m ∧ f.to ∈ v.mem ∧ (p.to = f.to ∨ p.to = 0 ∧ f.to ≠ p.m.src)
  | 0, _, h => by cases h
  | k + 1, hk, h => by
    unfold sprI at h
    cases hb : hitB v p k
    · rw [hb] at h
      exact sprI_mem (by omega) h
    · rw [hb, cond_true] at h
      rcases List.mem_append.1 h with h | h
      · exact sprI_mem (by omega) h
      · rw [List.mem_singleton.1 h]
        have hg : v.mem.getD k 0 = v.mem[k] := by simp [show k < v.mem.length by omega]
        refine ⟨rfl, ?_, ?_⟩
        · show v.mem.getD k 0 ∈ v.mem
          rw [hg]
          exact List.getElem_mem _
        · unfold hitB at hb
          simp only [Bool.or_eq_true, Bool.and_eq_true, decide_eq_true_eq, Bool.not_eq_true', decide_eq_false_iff_not] at hb
          exact hb
theorem spr_mem {v : View} {ps : List Pkt} {f : Pkt} (h : f ∈ spreadR v ps) : ∃ p ∈ ps, f.m = p.m ∧ f.to ∈ v.mem ∧ (p.to = f.to ∨ p.to = 0 ∧ f.to ≠ p.m.src) := by
  have key : ∀ i, i ≤ ps.length → f ∈ sprA v ps i → ∃ p ∈ ps, f.m = p.m ∧ f.to ∈ v.mem ∧ (p.to = f.to ∨ p.to = 0 ∧ f.to ≠ p.m.src) := by
    intro i
    induction i with
    | zero => intro _ h; cases h
    | succ i ih =>
      intro hi h
      unfold sprA at h
      rcases List.mem_append.1 h with h | h
      · exact ih (by omega) h
      · have hg : ps.getD i pkt0 = ps[i] := by simp [show i < ps.length by omega]
        rw [hg] at h
        exact ⟨ps[i], List.getElem_mem _, sprI_mem (Nat.le_refl _) h⟩
  exact key _ (Nat.le_refl _) h
theorem spr_len (v : View) (ps : List Pkt) : (spreadR v ps).length ≤ ps.length * v.mem.length := sprA_len v ps ps.length
theorem fitsFl {n : Nat} (h : n ≤ 100000) : fitsIn tt 62 n := by
  have e : (tinfo tt 62).bytes = 72 := by kernel_rfl
  refine ⟨?_, ?_⟩
  · rw [e]; omega
  · simp only [maxLen]; omega
set_option maxHeartbeats 4000000 in
theorem m_spread (v : View) (hv : v.mem.length ≤ 16) (l ps : List Pkt) (hl : l.length ≤ 10000) (hp : ps.length ≤ 1000) : RetM Try.prog 23 [.row 62 7 (l.map pktE)] [.agg (viewE v), .own 0, .lst 7 (ps.map pktE) false] [false] [.row 62 7 ((l ++ spreadR v ps).map pktE)] (.own 0) := by
  refine retM_of_body (fn := Try.f23) (c := Try.f23.body.getD .skip) hm hT (by kernel_rfl) Try.func23 (by kernel_rfl) (by kernel_rfl) (by kernel_rfl) (by kernel_rfl) (by kernel_rfl) ?_
  repeat' ((conv => whnf); first | refine And.intro (fun h => h) ?_ | refine dcond_t (by assumption) ?_ | refine dcond_f (by assumption) ?_ | (refine dcond_intro ?_ ?_ <;> intro h) | exact .refl | refine And.intro (by kernel_rfl) ?_ | refine And.intro ⟨fun h => h, fun h => h⟩ ?_ | refine Exists.intro false ?_ | (refine And.intro ?_ ?_; focus (simp; done)) | fail)
  all_goals (conv => whnf)
  refine ⟨Nat, fun i => ⟨[(1, .own 0), (2, .lst 7 (ps.map pktE) false), (3, .lp 2 0), (7, i64 i)], [.row 62 7 ((l ++ sprA v ps i).map pktE), .gh [.junk], .cells 24 (viewE v)]⟩, fun i => i ≤ ps.length, fun i => ps.length - i, [], ⟨0, Nat.zero_le _, ?_⟩, ?_⟩
  · conv => whnf
    refine ⟨⟨.refl, .refl, .refl, .refl, trivial⟩, ⟨ole_row ?_, gh_junk, .refl, trivial⟩, by rfl⟩
    simp [sprA]
  · intro i hi
    repeat' ((conv => whnf); first | refine And.intro (fun h => h) ?_ | refine dcond_t (by assumption) ?_ | refine dcond_f (by assumption) ?_ | (refine dcond_intro ?_ ?_ <;> intro h) | exact .refl | refine And.intro (by kernel_rfl) ?_ | refine And.intro ⟨fun h => h, fun h => h⟩ ?_ | refine Exists.intro false ?_ | (refine And.intro ?_ ?_; focus (simp; done)) | fail)
    all_goals (conv => whnf)
    · have hlt : i < ps.length := by simpa using h
      clear h
      have hg : (ps.map pktE)[i]? = some (pktE ps[i]) := get_map hlt
      have hA : sprA v ps (i + 1) = sprA v ps i ++ sprI v ps[i] v.mem.length := by
        have hgd : ps.getD i pkt0 = ps[i] := by simp [hlt]
        rw [← hgd]
        rfl
      obtain ⟨p, hpe⟩ : ∃ p, p = ps[i] := ⟨_, rfl⟩
      rw [← hpe] at hg hA
      have hAl := sprA_len v ps i
      have hAm : i * v.mem.length ≤ 1000 * 16 := Nat.mul_le_mul (by omega) hv
      generalize sprA v ps i = Q at *
      refine ⟨Nat, fun k => ⟨[(1, .own 0), (2, .lst 7 (ps.map pktE) false), (3, .lp 2 0), (7, i64 i), (8, i64 k)], [.row 62 7 ((l ++ Q ++ sprI v p k).map pktE), .gh [.junk], .cells 24 (viewE v)]⟩, fun k => k ≤ v.mem.length, fun k => v.mem.length - k, [], ⟨0, Nat.zero_le _, ?_⟩, ?_⟩
      · conv => whnf
        refine ⟨⟨.refl, .refl, .refl, .refl, .refl, trivial⟩, ⟨ole_row ?_, .refl, .refl, trivial⟩, by rfl⟩
        simp [sprI]
      · intro k hk
        have hIl := sprI_len v p k
        repeat' ((conv => whnf); first | refine And.intro (fun h => h) ?_ | refine dcond_t (by assumption) ?_ | refine dcond_f (by assumption) ?_ | (refine dcond_intro ?_ ?_ <;> intro h) | exact .refl | refine And.intro (by kernel_rfl) ?_ | refine And.intro ⟨fun h => h, fun h => h⟩ ?_ | refine Exists.intro false ?_ | (refine And.intro ?_ ?_; focus (simp; done)) | fail)
        all_goals (conv => whnf)
        · have hkl : k < v.mem.length := by simpa using h
          clear h
          have hgk : (v.mem.map intE)[k]? = some (intE v.mem[k]) := get_map hkl
          have hI : sprI v p (k + 1) = bif hitB v p k then sprI v p k ++ [⟨v.mem.getD k 0, p.m⟩] else sprI v p k := rfl
          have hgd : v.mem.getD k 0 = v.mem[k] := by simp [hkl]
          unfold hitB at hI
          rw [hgd] at hI
          obtain ⟨y, hy⟩ : ∃ y, y = v.mem[k] := ⟨_, rfl⟩
          rw [← hy] at hgk hI
          generalize sprI v p k = J at *
          repeat' ((conv => whnf); first | refine And.intro (fun h => h) ?_ | refine dcond_t (by assumption) ?_ | refine dcond_f (by assumption) ?_ | (refine dcond_intro ?_ ?_ <;> intro h) | exact .refl | refine And.intro (by kernel_rfl) ?_ | refine And.intro ⟨fun h => h, fun h => h⟩ ?_ | refine ⟨i, pktE p, And.intro ⟨rfl, hg⟩ ?_⟩ | refine ⟨k, intE y, And.intro ⟨rfl, hgk⟩ ?_⟩ | refine ⟨i, pktE p, And.intro ⟨⟨fun h => h, fun h => h⟩, fun hx => ⟨rfl, hg⟩⟩ ?_⟩ | refine ⟨k, intE y, And.intro ⟨⟨fun h => h, fun h => h⟩, fun hx => ⟨rfl, hgk⟩⟩ ?_⟩ | refine And.intro (fitsFl (by simp <;> omega)) ?_ | refine Exists.intro false ?_ | (refine And.intro ?_ ?_; focus (simp; done)) | fail)
          all_goals (conv => whnf)
          · rw [h, cond_true] at hI
            refine ⟨k + 1, hkl, by simp only []; omega, ?_⟩
            conv => whnf
            refine ⟨⟨.refl, .refl, .refl, .refl, dle_int (wrap_succ (by omega)), trivial⟩, ⟨ole_row ?_, .refl, .refl, trivial⟩, by rfl⟩
            rw [hI, ← List.append_assoc, List.map_append (l₁ := l ++ Q ++ J)]
            rfl
          · rw [h, cond_false] at hI
            refine ⟨k + 1, hkl, by simp only []; omega, ?_⟩
            conv => whnf
            refine ⟨⟨.refl, .refl, .refl, .refl, dle_int (wrap_succ (by omega)), trivial⟩, ⟨ole_row ?_, .refl, .refl, trivial⟩, by rfl⟩
            rw [hI]
        · have hkn : k = v.mem.length := by
            simp at h
            omega
          clear h
          subst hkn
          refine ⟨i + 1, hlt, by simp only []; omega, ?_⟩
          conv => whnf
          refine ⟨⟨.refl, .refl, .refl, dle_int (wrap_succ (by omega)), trivial⟩, ⟨ole_row ?_, .refl, .refl, trivial⟩, by rfl⟩
          rw [hA, List.append_assoc]
    · have hin : i = ps.length := by
        simp at h
        omega
      clear h
      subst hin
      exact ⟨.refl, ⟨.refl, gh_junk, trivial⟩, by rfl⟩
end Go.Proofs.Ytmbniilpgbjcfaa

set_option maxRecDepth 100000
namespace Go.Proofs.Ytmbniilpgbjcfaa
open Go.Lift
theorem end_ps (s : Agr) (ps : List Pkt) : (endA s ps).2.length ≤ ps.length + 1 := by
  unfold endA
  cases decide ((s.dec.length : Int) = 0) && decide (0 < ((decR s).length : Int)) <;> simp
theorem prop_ps (s : Agr) (cut : List Int) : (propA s cut).2.1.length ≤ 200 := by
  unfold propA
  have h1 := end_ps { s with prop := cut, wait := 0, acc := (voteR s.acc cut).1, box := (castR s.view s.box ⟨s.self, cut⟩).1 } [pktOf s 0 1 0 0 cut]
  have h2 := end_ps { s with prop := cut, wait := 0 } []
  simp only [List.length_cons, List.length_nil] at h1 h2
  cases !agrB s || !appB s.view cut
  · cases decide (0 < (s.prop.length : Int)) || decide (0 < (s.dec.length : Int))
    · cases (voteR s.acc cut).2
      · exact Nat.le_trans h2 (by decide)
      · exact Nat.le_trans h1 (by decide)
    · exact Nat.zero_le _
  · exact Nat.zero_le _
theorem act_ps (s : Agr) (m : Msg) : (actA s m).2.length ≤ 100 := by
  unfold actA
  split
  · exact Nat.zero_le _
  · split
    · exact prepA_ps s m
    · split
      · exact promA_ps s m
      · split
        · exact acctA_ps s m
        · split
          · exact Nat.zero_le _
          · simp
theorem rec_ps (s : Agr) (m : Msg) : (recA s m).2.1.length ≤ 200 := by
  unfold recA
  split
  · exact Nat.zero_le _
  · split
    · exact Nat.zero_le _
    · split
      · exact Nat.zero_le _
      · split
        · cases decide (m.kind = 6) <;> simp
        · have := end_ps (actA s m).1 (actA s m).2
          have := act_ps s m
          simp only []
          omega
theorem tick_ps (s : Agr) : (tickA s).2.length ≤ 200 := by
  unfold tickA
  split
  · exact Nat.zero_le _
  · split
    · simp
    · have := end_ps (stepA s) (rsdA (stepA s))
      have := rsd_ps (stepA s)
      omega
theorem vm_len {v : View} {m : Msg} (h : vmB v m = true) : m.cut.length ≤ 32 := by
  have hb := vm_body h
  rcases vm_kind h with hk | hk | hk | hk | hk | hk
  · exact good_len (good_iff.2 (.inr (hb.1 (.inl hk))))
  · have : m.cut = [] := by
      unfold vmB at h
      cases h1 : !viewB v || !inB v.mem m.src || !decide (m.view = v.num)
      · simp only [h1, hk, cond_false] at h
        simp only [Bool.and_eq_true, decide_eq_true_eq, decide_true, decide_false, Bool.or_self, cond_true, cond_false, show ¬ ((2 : Int) = 1) by decide, show ¬ ((2 : Int) = 6) by decide] at h
        exact len0.1 (decide_eq_true h.2)
      · rw [h1] at h
        cases h
    rw [this]
    exact Nat.zero_le _
  · rcases (hb.2.2.1 hk).2.2 with hl | hl
    · rw [hl.2]
      exact Nat.zero_le _
    · exact good_len (good_iff.2 (.inr hl.2))
  · exact good_len (good_iff.2 (.inr (hb.2.2.2.1 hk).2.2))
  · exact good_len (good_iff.2 (.inr (hb.2.2.2.2 hk).2))
  · exact good_len (good_iff.2 (.inr (hb.1 (.inr hk))))
theorem mem_lt {v : View} (hv : viewB v = true) : ∀ j (hj : j < v.mem.length), ∀ i (hij : i < j), (v.mem[i]'(by omega)) < v.mem[j] := by
  have hid : idsB v.mem 16 = true := by
    simp only [viewB, Bool.and_eq_true] at hv
    exact hv.2
  rw [ids_eq] at hid
  simp only [Bool.and_eq_true] at hid
  have hr := rise_iff.1 hid.2
  intro j
  induction j with
  | zero => intro _ i hi; omega
  | succ j ih =>
    intro hj i hi
    have h1 := (hr (j + 1) hj).2.2 (by omega)
    have h2 : v.mem.getD (j + 1 - 1) 0 = v.mem[j] := by simp [show j < v.mem.length by omega]
    rw [h2] at h1
    rcases Nat.lt_succ_iff_lt_or_eq.1 hi with hi | rfl
    · have := ih (by omega) i hi
      omega
    · exact h1
theorem mem_ne {v : View} (hv : viewB v = true) {i j : Nat} (hi : i < v.mem.length) (hj : j < v.mem.length) (hne : i ≠ j) : v.mem.getD i 0 ≠ v.mem.getD j 0 := by
  have e1 : v.mem.getD i 0 = v.mem[i] := by simp [hi]
  have e2 : v.mem.getD j 0 = v.mem[j] := by simp [hj]
  rw [e1, e2]
  rcases Nat.lt_or_gt_of_ne hne with h | h
  · have := mem_lt hv j hj i h
    omega
  · have := mem_lt hv i hi j h
    omega
theorem place_at {l : List Int} {x : Int} (h : x ∈ l) : ∃ a, a < l.length ∧ placeB l x = (a : Int) ∧ l.getD a 0 = x := by
  unfold placeB
  rcases hf : (List.range l.length).find? (fun i => decide (l[i]? = some x)) with _ | n
  · obtain ⟨i, hi, rfl⟩ := List.getElem_of_mem h
    have := List.find?_eq_none.1 hf i (List.mem_range.2 hi)
    simp [hi] at this
  · have hp := List.find?_some hf
    simp only [decide_eq_true_eq] at hp
    have hn : n < l.length := List.mem_range.1 (List.mem_of_find?_eq_some hf)
    refine ⟨n, hn, by simp only [findB, hf], ?_⟩
    simp only [List.getD_eq_getElem?_getD, hp, Option.getD_some]
theorem in_of_mem {l : List Int} {x : Int} (h : x ∈ l) : inB l x = true := by
  obtain ⟨a, _, e, _⟩ := place_at h
  unfold inB
  rw [e]
  exact decide_eq_true (by omega)
def nthA (S : List Agr) (i : Nat) : Agr := S.getD i agr0
theorem nth_set {S : List Agr} {a i : Nat} {x : Agr} (ha : a < S.length) : nthA (S.set a x) i = if i = a then x else nthA S i := by
  unfold nthA
  simp only [List.getD_eq_getElem?_getD, List.getElem?_set]
  by_cases h : i = a
  · subst h
    simp [ha]
  · rw [if_neg (fun e : a = i => h e.symm), if_neg h]
theorem nth_get {S : List Agr} {i : Nat} (h : i < S.length) : (S.map agrE)[i]? = some (agrE (nthA S i)) := by
  unfold nthA
  simp [h]
structure LM (v : View) (S : List Agr) (fly : List Pkt) (Pr : List (List Int)) (d : List Int) (g : Gh) (a : Nat) (ps : List Pkt) : Prop where
  len : S.length = v.mem.length
  inv : GInv v g
  st : ∀ i, i < v.mem.length → (nthA S i).self = v.mem.getD i 0 ∧ (nthA S i).view = v ∧ AW (nthA S i) ∧ few (nthA S i) ∧ GOk v g (nthA S i)
  fl : ∀ f ∈ fly, vmB v f.m = true ∧ f.to ∈ v.mem ∧ f.m.src ≠ f.to ∧ FOk v g f.m
  pr : ∀ c, g.P c → c ∈ Pr
  dd : d ≠ [] → Dec v g d
  d0 : d = [] → ∀ i, i < v.mem.length → i ≠ a → (nthA S i).dec = []
  pk : ∀ p ∈ ps, vmB v p.m = true ∧ p.to ≠ p.m.src ∧ FOk v g p.m
  pl : ps.length ≤ 200
def LW (v : View) (S : List Agr) (fly : List Pkt) (Pr : List (List Int)) (d : List Int) : Prop := ∃ g, LM v S fly Pr d g v.mem.length []
section
variable {v : View} {S : List Agr} {fly : List Pkt} {Pr : List (List Int)} {d : List Int} {g : Gh} {a : Nat} {ps : List Pkt}
theorem lm_any (h : LM v S fly Pr d g v.mem.length []) (a : Nat) : LM v S fly Pr d g a [] :=
  ⟨h.len, h.inv, h.st, h.fl, h.pr, h.dd, fun e i hi _ => h.d0 e i hi (by omega), h.pk, h.pl⟩
theorem lm_step (hv : viewB v = true) (h : LM v S fly Pr d g a ps) (ha : a < v.mem.length) {x : Agr × List Pkt} (hr : Res v g (nthA S a) x) (hn : Nice (nthA S a) x) (hl : x.2.length ≤ 200) : ∃ g', LM v (S.set a x.1) fly Pr d g' a x.2 := by
  obtain ⟨g', i1, s1, p1, q1, f1⟩ := hr
  obtain ⟨n1, n2, n3, n4, n5⟩ := hn
  obtain ⟨b1, b2, b3, b4, b5⟩ := h.st a ha
  have haS : a < S.length := by rw [h.len]; exact ha
  refine ⟨g', by rw [List.length_set]; exact h.len, i1, fun i hi => ?_, fun f hf => ?_, fun c hc => h.pr c (p1 c hc), fun e => dec_ext s1.ext (h.dd e), fun e i hi hne => ?_, fun p hp => ?_, hl⟩
  · rw [nth_set haS]
    by_cases he : i = a
    · rw [if_pos he, he]
      exact ⟨n4.trans b1, n3.trans b2, n1, n2, q1⟩
    · rw [if_neg he]
      obtain ⟨c1, c2, c3, c4, c5⟩ := h.st i hi
      exact ⟨c1, c2, c3, c4, gok_other c3 s1 (by rw [c1, b1]; exact mem_ne hv hi ha he) c5⟩
  · obtain ⟨c1, c2, c3, c4⟩ := h.fl f hf
    exact ⟨c1, c2, c3, fok_ext s1.ext c1 c4⟩
  · rw [nth_set haS, if_neg hne]
    exact h.d0 e i hi hne
  · have := n5 p hp
    refine ⟨by rw [← b2]; exact this.vm, by rw [this.src]; exact this.ne, f1 p hp⟩
theorem lm_prop (h : LM v S fly Pr d g a []) (c : List Int) : LM v S fly (Pr ++ [c]) d (gPr g c) a [] := by
  obtain ⟨i0, s0⟩ := g_prop (c := c) h.inv 0
  refine ⟨h.len, i0, fun i hi => ?_, fun f hf => ?_, fun x hx => ?_, fun e => dec_ext s0.ext (h.dd e), h.d0, (fun p hp => by cases hp), h.pl⟩
  · obtain ⟨c1, c2, c3, c4, c5⟩ := h.st i hi
    exact ⟨c1, c2, c3, c4, ⟨c5.ac.pro, c5.ac.neg, c5.ac.zero, c5.ac.pos, c5.ac.top⟩, re_ext s0.ext (fun _ _ h => h) (fun p => (ph_rank c3 (.inl p)).2.2.1) c5.re⟩
  · obtain ⟨c1, c2, c3, c4⟩ := h.fl f hf
    exact ⟨c1, c2, c3, fok_ext s0.ext c1 c4⟩
  · rcases hx with hx | rfl
    · exact List.mem_append_left _ (h.pr x hx)
    · exact List.mem_append_right _ (List.mem_singleton.2 rfl)
theorem lm_fly (h : LM v S fly Pr d g a ps) : LM v S (fly ++ spreadR v ps) Pr d g a ps := by
  refine ⟨h.len, h.inv, h.st, fun f hf => ?_, h.pr, h.dd, h.d0, h.pk, h.pl⟩
  rcases List.mem_append.1 hf with hf | hf
  · exact h.fl f hf
  · obtain ⟨p, hp, e, h2, h3⟩ := spr_mem hf
    obtain ⟨k1, k2, k3⟩ := h.pk p hp
    rw [e]
    refine ⟨k1, h2, ?_, k3⟩
    rcases h3 with h3 | ⟨_, h3⟩
    · rw [← h3]
      exact fun e => k2 e.symm
    · exact fun e => h3 e.symm
theorem lm_none (h : LM v S fly Pr d g a ps) (ha : a < v.mem.length) (hd : (nthA S a).dec = []) : LW v S fly Pr d :=
  ⟨g, h.len, h.inv, h.st, h.fl, h.pr, h.dd, fun e i hi _ => by
    by_cases he : i = a
    · rw [he]
      exact hd
    · exact h.d0 e i hi he, (fun p hp => by cases hp), Nat.zero_le _⟩
theorem lm_some (h : LM v S fly Pr d g a ps) (ha : a < v.mem.length) (hd : (nthA S a).dec ≠ []) : LW v S fly Pr (nthA S a).dec :=
  ⟨g, h.len, h.inv, h.st, h.fl, h.pr, fun _ => (h.st a ha).2.2.2.2.re.dec hd, fun e => absurd e hd, (fun p hp => by cases hp), Nat.zero_le _⟩
theorem lm_same (hv : viewB v = true) (h : LM v S fly Pr d g a ps) (ha : a < v.mem.length) (h1 : d ≠ []) (hd : (nthA S a).dec ≠ []) : d = (nthA S a).dec :=
  dec_same (view_n hv).1 h.inv (h.dd h1) ((h.st a ha).2.2.2.2.re.dec hd)
theorem lw_drop (h : LW v S fly Pr d) (k : Nat) : LW v S (fly.take k ++ fly.drop (k + 1)) Pr d := by
  obtain ⟨g, h⟩ := h
  refine ⟨g, h.len, h.inv, h.st, fun f hf => ?_, h.pr, h.dd, h.d0, h.pk, h.pl⟩
  rcases List.mem_append.1 hf with hf | hf
  · exact h.fl f (List.mem_of_mem_take hf)
  · exact h.fl f (List.mem_of_mem_drop hf)
end
def gh0 : Gh := ⟨fun _ _ => False, fun _ _ _ => False, fun _ _ => False, fun _ => False, fun _ => 0⟩
theorem ginv0 (v : View) : GInv v gh0 := ⟨fun _ _ _ h => h.elim, fun _ _ h => h.elim, fun _ _ _ h => h.elim, fun _ _ _ h => h.elim, fun _ _ h => h.elim⟩
def stA (v : View) (m : Int) : Agr := ⟨m, v, ⟨0, -1, []⟩, [], [], 0, 0, [], [], [], [], 0⟩
theorem new_in {v : View} (hv : viewB v = true) {m : Int} (hm : inB v.mem m = true) : newA v m = (stA v m, 0) := by
  unfold newA
  rw [hv, hm]
  rfl
theorem aw_new {v : View} (hv : viewB v = true) {m : Int} (hm : inB v.mem m = true) : AW (stA v m) :=
  ⟨hv, hm, Int.le_refl _, (by show (0 : Int) ≤ _; omega), (accB_iff _).2 ⟨.inl rfl, (by show (-1 : Int) ≤ 0; omega), .inl ⟨rfl, rfl⟩⟩, fun e => absurd rfl e, (fun e => absurd e (by show ¬ (0 : Int) < -1; omega)), good_iff.2 (.inl rfl), good_iff.2 (.inl rfl), good_iff.2 (.inl rfl), good_iff.2 (.inl rfl), (box_iff hv).2 ⟨by simp [stA], .nil⟩, (fun e => by
    have : (cutOf ([] : List Bal) m).2 = false := by
      cases h : (cutOf ([] : List Bal) m).2
      · rfl
      · obtain ⟨b, hb, _⟩ := cut_some h
        cases hb
    rw [show (cutOf (stA v m).box (stA v m).self).2 = (cutOf ([] : List Bal) m).2 from rfl, this] at e
    cases e), reps_nil hv, (fun r hr => by cases hr), reps_nil hv, (fun r hr => by cases hr), fun e => absurd rfl e, .inl ⟨rfl, rfl, rfl⟩⟩
theorem gok_new (v : View) (m : Int) : GOk v gh0 (stA v m) :=
  ⟨⟨rfl, fun _ _ h => h, (fun e => by
    have e : (-1 : Int) = 0 := e
    omega), (fun e => absurd e (by show ¬ (0 : Int) < -1; omega)), fun _ _ h => h.elim⟩,
   ⟨(fun b hb => by cases hb), (fun e => by
    have e : (0 : Int) = 1 := e
    omega), fun _ _ h => h, fun _ _ h => h.elim, (fun e => by
    have e : (0 : Int) = 2 := e
    omega), (fun x hx => by cases hx), fun e => absurd rfl e, fun e => absurd rfl e⟩⟩
def S0 (v : View) : List Agr := v.mem.map (stA v)
theorem nth_S0 {v : View} {i : Nat} (h : i < v.mem.length) : nthA (S0 v) i = stA v (v.mem.getD i 0) := by
  unfold nthA S0
  simp [h]
theorem lw_0 {v : View} (hv : viewB v = true) : LW v (S0 v) [] [] [] := by
  refine ⟨gh0, by simp [S0], ginv0 v, fun i hi => ?_, (fun f hf => by cases hf), fun c h => h.elim, fun e => absurd rfl e, fun _ i hi _ => ?_, (fun p hp => by cases hp), Nat.zero_le _⟩
  · rw [nth_S0 hi]
    have hg : v.mem.getD i 0 = v.mem[i] := by simp [hi]
    refine ⟨rfl, rfl, aw_new hv ?_, fun e => ?_, gok_new v _⟩
    · rw [hg]
      exact in_of_mem (List.getElem_mem hi)
    · have e : (0 : Int) = 1 := e
      omega
  · rw [nth_S0 hi]
    rfl
end Go.Proofs.Ytmbniilpgbjcfaa

set_option maxRecDepth 100000
namespace Go.Proofs.Ytmbniilpgbjcfaa
open Go.Lift
structure Mv where
  kd : Nat
  a : Nat
  w : Nat
  n : Nat
def mvE (x : Mv) : List DV := [.v (.int .u8 x.kd), .v (.int .u8 x.a), .v (.int .u8 x.w), .v (.int .u16 x.n)]
def okMv (x : Mv) : Prop := x.kd ≤ 255 ∧ x.a ≤ 255 ∧ x.w ≤ 255 ∧ x.n ≤ 65535
def zA : List DV := [i64 0, i64 0, .nl, i64 0, i64 0, .nl, .nl, .nl, i64 0, i64 0, .nl, .nl, .nl, .nl, i64 0]
theorem row_len {S : List Agr} {a : Nat} {x : List DV} : ((S.map agrE).set a x).length = S.length := by simp
theorem row_set {S : List Agr} {a : Nat} {x : Agr} : (S.map agrE).set a (agrE x) = (S.set a x).map agrE := by rw [List.map_set]
theorem row_get {S : List Agr} {a : Nat} {x : Agr} (h : a < S.length) : ((S.map agrE).set a (agrE x))[a]? = some (agrE (nthA (S.set a x) a)) := by
  rw [row_set]
  exact nth_get (by rw [List.length_set]; exact h)
theorem pr_app {Pr : List (List Int)} {c : List Int} : Pr.map cutE ++ [cutE c] = (Pr ++ [c]).map cutE := by
  rw [List.map_append]
  rfl
theorem drop_row {fly : List Pkt} {k : Nat} : (([] : List (List DV)) ++ ((fly.map pktE).take k).drop 0) ++ (fly.map pktE).drop (k + 1) = (fly.take k ++ fly.drop (k + 1)).map pktE := by
  simp [List.map_take, List.map_drop]
theorem dec_yes {d : List Int} (h : decide (0 < ((d.map intE).length : Int)) = true) : d ≠ [] := by
  rw [List.length_map] at h
  exact len1.1 h
theorem dec_not {d : List Int} (h : decide (0 < ((d.map intE).length : Int)) = false) : d = [] := by
  rw [List.length_map] at h
  exact len1f.1 h
theorem lm_bad {v : View} (hv : viewB v = true) {S : List Agr} {fly : List Pkt} {Pr : List (List Int)} {d : List Int} {g : Gh} {a : Nat} {ps : List Pkt} (h : LM v S fly Pr d g a ps) (ha : a < v.mem.length) (h1 : decide (0 < (((nthA S a).dec.map intE).length : Int)) = true) (h2 : (decide (0 < ((d.map intE).length : Int)) && !sameI d (nthA S a).dec) = true) : False := by
  rw [Bool.and_eq_true] at h2
  have := lm_same hv h ha (dec_yes h2.1) (dec_yes h1)
  rw [this, sameI_refl] at h2
  simp at h2
set_option maxHeartbeats 16000000 in
theorem r_AgreeSafety (v : View) (hv : v.mem.length ≤ maxLen) (l : List Mv) (hl : l.length ≤ maxLen) (hok : ∀ x ∈ l, okMv x) : Ret Try.prog 5 [.agg (viewE v), .lst 4 (l.map mvE) false] (.v (.bool true)) := by
  have e20 := c_law8_Cuts v hv
  have e21 := c_ref3_Valid v hv
  have hck := cuts_ok v
  generalize cutsR v = cuts at e20 hck
  refine ret_of_body (fn := Try.f5) (c := Try.f5.body.getD .skip) hm hT (by kernel_rfl) Try.func5 (by kernel_rfl) (by kernel_rfl) (by kernel_rfl) (by kernel_rfl) ?_
  repeat' ((conv => whnf); first | refine And.intro (fun h => h) ?_ | refine dcond_t (by assumption) ?_ | refine dcond_f (by assumption) ?_ | (refine dcond_intro ?_ ?_ <;> intro h) | exact .refl | refine And.intro (by kernel_rfl) ?_ | refine And.intro ⟨fun h => h, fun h => h⟩ ?_ | refine .inl ⟨_, _, DleAll_refl _, c_law10_awake, ?_⟩ | refine ⟨_, _, DleAll_refl _, fun _ => c_law10_awake, ?_⟩ | refine ⟨_, _, DleAll_refl _, c_law10_awake, ?_⟩ | refine .inl ⟨_, _, DleAll_refl _, e20, ?_⟩ | refine ⟨_, _, DleAll_refl _, fun _ => e20, ?_⟩ | refine ⟨_, _, DleAll_refl _, e20, ?_⟩ | refine .inl ⟨_, _, DleAll_refl _, e21, ?_⟩ | refine ⟨_, _, DleAll_refl _, fun _ => e21, ?_⟩ | refine ⟨_, _, DleAll_refl _, e21, ?_⟩ | refine Exists.intro false ?_ | (refine And.intro ?_ ?_; focus (simp; done)) | fail)
  all_goals (conv => whnf)
  have hs : viewB v = true ∧ v.mem.length ≤ 7 ∧ 0 < cuts.length ∧ l.length ≤ 100 := by
    simp only [List.length_map, Bool.or_eq_false_iff, decide_eq_false_iff_not, Bool.not_eq_false'] at h
    obtain ⟨⟨⟨h1, h2⟩, h3⟩, h4⟩ := h
    exact ⟨h1, by omega, by omega, by omega⟩
  clear h e20 e21
  obtain ⟨hvw, h7, hcp, h100⟩ := hs
  have hn := view_n hvw
  have hby : (v.mem.map intE).length * (tinfo tt 30).bytes ≤ 140737488355328 := by
    have e : (tinfo tt 30).bytes = 248 := by kernel_rfl
    rw [e, List.length_map]
    omega
  have hmx : (v.mem.map intE).length ≤ maxLen := by simpa using hv
  refine ⟨_, _, rfl, rfl, Nat.le_refl _, hby, hmx, ?_⟩
  repeat' ((conv => whnf); first | refine And.intro (fun h => h) ?_ | refine dcond_t (by assumption) ?_ | refine dcond_f (by assumption) ?_ | (refine dcond_intro ?_ ?_ <;> intro h) | exact .refl | refine And.intro (by kernel_rfl) ?_ | refine And.intro ⟨fun h => h, fun h => h⟩ ?_ | refine Exists.intro false ?_ | (refine And.intro ?_ ?_; focus (simp; done)) | fail)
  all_goals (conv => whnf)
  have hS0 : (S0 v).length = v.mem.length := by simp [S0]
  refine ⟨Nat, fun i => ⟨[(1, .lst 4 (l.map mvE) false), (2, .lp 0 0), (5, .lst 1 (cuts.map cutE) false), (6, i64 v.mem.length), (7, .own 1), (8, i64 i)], [.cells 24 (viewE v), .row 30 15 (((S0 v).take i).map agrE ++ List.replicate ((S0 v).length - i) zA)]⟩, fun i => i ≤ v.mem.length, fun i => v.mem.length - i, [], ⟨0, Nat.zero_le _, ?_⟩, ?_⟩
  · conv => whnf
    refine ⟨⟨.refl, .refl, .refl, dle_int (by simp), .refl, .refl, trivial⟩, ⟨.refl, ole_row ?_, trivial⟩, by rfl⟩
    rw [List.length_map, hS0]
    rfl
  · intro i hi
    repeat' ((conv => whnf); first | refine And.intro (fun h => h) ?_ | refine dcond_t (by assumption) ?_ | refine dcond_f (by assumption) ?_ | (refine dcond_intro ?_ ?_ <;> intro h) | exact .refl | refine And.intro (by kernel_rfl) ?_ | refine And.intro ⟨fun h => h, fun h => h⟩ ?_ | refine Exists.intro false ?_ | (refine And.intro ?_ ?_; focus (simp; done)) | fail)
    all_goals (conv => whnf)
    · have hlt : i < v.mem.length := by simpa using h
      clear h
      have hltS : i < (S0 v).length := by omega
      have hlen := fill_len (f := agrE) (z := zA) (l := S0 v) (i := i) (by omega)
      have hl0 : i < (((S0 v).take i).map agrE ++ List.replicate ((S0 v).length - i) zA).length := by omega
      have hget := fill_get (f := agrE) (z := zA) hltS
      have hset := fill_set (f := agrE) (z := zA) hltS
      have hSi : (S0 v)[i] = stA v v.mem[i] := by simp [S0]
      have e9 := c_agreement_New v (by omega) v.mem[i]
      rw [new_in hvw (in_of_mem (List.getElem_mem hlt))] at e9
      rw [hSi] at hset
      have hgm : (v.mem.map intE)[i]? = some (intE v.mem[i]) := get_map hlt
      obtain ⟨m, hm9⟩ : ∃ m, m = v.mem[i] := ⟨_, rfl⟩
      rw [← hm9] at e9 hset hgm
      generalize stA v m = N at *
      repeat' ((conv => whnf); first | refine And.intro (fun h => h) ?_ | refine dcond_t (by assumption) ?_ | refine dcond_f (by assumption) ?_ | (refine dcond_intro ?_ ?_ <;> intro h) | exact .refl | refine And.intro (by kernel_rfl) ?_ | refine And.intro ⟨fun h => h, fun h => h⟩ ?_ | refine ⟨i, intE m, And.intro ⟨rfl, hgm⟩ ?_⟩ | refine ⟨i, And.intro ⟨rfl, hl0⟩ ?_⟩ | refine ⟨zA, And.intro hget ?_⟩ | refine ⟨zA, hget, ?_⟩ | refine .inl ⟨_, _, DleAll_refl _, e9, ?_⟩ | refine ⟨_, _, DleAll_refl _, fun _ => e9, ?_⟩ | refine ⟨_, _, DleAll_refl _, e9, ?_⟩ | refine Exists.intro false ?_ | (refine And.intro ?_ ?_; focus (simp; done)) | fail)
      all_goals (conv => whnf)
      refine ⟨i + 1, hlt, by simp only []; omega, ?_⟩
      conv => whnf
      refine ⟨⟨.refl, .refl, .refl, .refl, .refl, dle_int (wrap_succ (by omega)), trivial⟩, ⟨.refl, ole_row ?_, trivial⟩, by rfl⟩
      rw [← hset]
      rfl
    · have : i = v.mem.length := by
        simp at h
        omega
      subst this
      clear h hi hby
      have hend : ((S0 v).take v.mem.length).map agrE ++ List.replicate ((S0 v).length - v.mem.length) zA = (S0 v).map agrE := by
        rw [← hS0]
        exact fill_end
      rw [hend]
      clear hend
      refine ⟨Nat × List Agr × List Pkt × List (List Int) × List Int, fun y => ⟨[(1, .lst 4 (l.map mvE) false), (2, .lp 0 0), (5, .lst 1 (cuts.map cutE) false), (6, i64 v.mem.length), (7, .own 1), (10, .own 2), (11, .own 3), (12, .lst 1 (y.2.2.2.2.map intE) false), (13, i64 y.1)], [.cells 24 (viewE v), .row 30 15 (y.2.1.map agrE), .row 62 7 (y.2.2.1.map pktE), .row 22 1 (y.2.2.2.1.map cutE)]⟩, fun y => y.1 ≤ l.length ∧ LW v y.2.1 y.2.2.1 y.2.2.2.1 y.2.2.2.2 ∧ y.2.2.1.length ≤ 3400 ∧ (y.2.2.2.1.length ≤ y.1 ∧ ∀ c ∈ y.2.2.2.1, c.length ≤ 1) ∧ y.2.2.2.2.length ≤ 32, fun y => l.length - y.1, [.slot 10 62 7, .slot 11 22 1, .home 10 2], ⟨(0, S0 v, [], [], []), ⟨Nat.zero_le _, lw_0 hvw, Nat.zero_le _, ⟨Nat.zero_le _, fun c hc => by cases hc⟩, Nat.zero_le _⟩, ?_⟩, ?_⟩
      · conv => whnf
        exact ⟨⟨.refl, .refl, .refl, .refl, .refl, .refl, .refl, .nl, .refl, trivial⟩, ⟨.refl, .refl, .refl, .refl, trivial⟩, by rfl⟩
      · intro ⟨i, S, fly, Pr, d⟩ ⟨hi, ⟨g, hL⟩, hfl, ⟨hPl, hPc⟩, hdl⟩
        simp only at hi hL hfl hPl hPc hdl
        have hSl := hL.len
        repeat' ((conv => whnf); first | refine And.intro (fun h => h) ?_ | refine dcond_t (by assumption) ?_ | refine dcond_f (by assumption) ?_ | (refine dcond_intro ?_ ?_ <;> intro h) | exact .refl | refine And.intro (by kernel_rfl) ?_ | refine And.intro ⟨fun h => h, fun h => h⟩ ?_ | refine Exists.intro false ?_ | (refine And.intro ?_ ?_; focus (simp; done)) | fail)
        all_goals (conv => whnf)
        · have hlt : i < l.length := by simpa using h
          clear h
          obtain ⟨x, hx⟩ : ∃ x, x = l[i] := ⟨_, rfl⟩
          obtain ⟨o1, o2, o3, o4⟩ := hok x (by rw [hx]; exact List.getElem_mem hlt)
          have hgx : (l.map mvE)[i]? = some (mvE x) := by
            rw [hx]
            exact get_map hlt
          clear hx
          obtain ⟨a, ha⟩ : ∃ a, a = x.a % v.mem.length := ⟨_, rfl⟩
          obtain ⟨K, hK⟩ : ∃ K, K = x.w % cuts.length := ⟨_, rfl⟩
          have hal : a < v.mem.length := by rw [ha]; exact Nat.mod_lt _ (by omega)
          have hKl : K < cuts.length := by rw [hK]; exact Nat.mod_lt _ hcp
          have hne : ((v.mem.length : Nat) : Int) ≠ 0 := by omega
          have hnec : ((cuts.map cutE).length : Int) ≠ 0 := by rw [List.length_map]; omega
          have hixa : (IntKind.i64.wrap (x.a : Int)).tmod (v.mem.length : Int) = (a : Int) := by
            rw [wrap_i64 (by omega) (by omega), ha]
            rfl
          have hixw : (IntKind.i64.wrap (x.w : Int)).tmod ((cuts.map cutE).length : Int) = (K : Int) := by
            rw [List.length_map, wrap_i64 (by omega) (by omega), hK]
            rfl
          have hixt : IntKind.i64.wrap ((x.w : Int).tmod 16) = ((x.w % 16 : Nat) : Int) := by
            have : (x.w : Int).tmod 16 = ((x.w % 16 : Nat) : Int) := rfl
            rw [this, wrap_i64 (by omega) (by omega)]
          obtain ⟨c, hc⟩ : ∃ c, c = cuts[K] := ⟨_, rfl⟩
          have hgc : (cuts.map cutE)[K]? = some (cutE c) := by rw [hc]; exact get_map hKl
          have hcl : c.length = 1 ∧ (nextR v c).2 = 0 := by rw [hc]; exact hck.2 _ (List.getElem_mem hKl)
          clear ha hK hc
          have hM := lm_any hL a
          have hla : a < (S.map agrE).length := by rw [List.length_map, hSl]; exact hal
          have hga := nth_get (S := S) (i := a) (by rw [hSl]; exact hal)
          obtain ⟨s1, s2, s3, s4, s5⟩ := hL.st a hal
          repeat' ((conv => whnf); first | refine And.intro (fun h => h) ?_ | refine dcond_t (by assumption) ?_ | refine dcond_f (by assumption) ?_ | (refine dcond_intro ?_ ?_ <;> intro h) | exact .refl | refine And.intro (by kernel_rfl) ?_ | refine And.intro ⟨fun h => h, fun h => h⟩ ?_ | refine ⟨i, mvE x, And.intro ⟨rfl, hgx⟩ ?_⟩ | refine And.intro hne ?_ | refine Exists.intro false ?_ | (refine And.intro ?_ ?_; focus (simp; done)) | fail)
          all_goals (conv => whnf)
          · clear h hixt
            have hPc2 : ∀ y ∈ Pr ++ [c], y.length ≤ 1 := fun y hy => by
              rcases List.mem_append.1 hy with hy | hy
              · exact hPc y hy
              · rw [List.mem_singleton.1 hy]
                omega
            have eP := c_agreement_Propose (nthA S a) (sm_aw s3) c (by omega)
            have nP := fun h => @nice_prop _ s3 s4 c h
            have gP := fun h => @g_propose v g _ hL.inv s3 s4 s2 s5 c h
            have lP := prop_ps (nthA S a) c
            generalize propA (nthA S a) c = X at *
            by_cases hX : X.2.2 = 0
            · obtain ⟨g2, hM2⟩ := lm_step (x := (X.1, X.2.1)) hvw (lm_prop hM c) hal (gP hX) (nP hX) lP
              simp only [] at hM2
              clear nP gP hM
              have hX' : decide (X.2.2 = 0) = true := decide_eq_true hX
              have hTl0 : a < ((S.map agrE).set a (agrE X.1)).length := by rw [row_len, hSl]; exact hal
              have hTg0 := row_get (x := X.1) (show a < S.length by rw [hSl]; exact hal)
              have hpl2 := hM2.pl
              have hsp := lm_fly hM2
              have espr := m_spread v (by omega) fly (X.2.1) (by omega) (by omega)
              have hspl := spr_len v (X.2.1)
              have hspm : (X.2.1).length * v.mem.length ≤ 200 * 7 := Nat.mul_le_mul hpl2 h7
              obtain ⟨t1, t2, t3, t4, t5⟩ := hM2.st a hal
              have eV := c_agreement_Valid (nthA (S.set a X.1) a) (sm_aw t3)
              rw [(agr_iff _).2 ⟨t3, t4⟩] at eV
              have hdl2 := good_len t3.dec
              have eS := c_law10_same d (nthA (S.set a X.1) a).dec (by simp only [maxLen]; omega)
              have hbad := lm_bad hvw hM2 hal
              have hY1 := fun h => lm_some hM2 hal (dec_yes h)
              have hY2 := fun h => lm_some hsp hal (dec_yes h)
              have hN1 := fun h => lm_none hM2 hal (dec_not h)
              have hN2 := fun h => lm_none hsp hal (dec_not h)
              have hF2 : decide (((fly.map pktE).length : Int) < 2000) = true → (fly ++ spreadR v (X.2.1)).length ≤ 3400 := fun h => by
                have := of_decide_eq_true h
                rw [List.length_map] at this
                rw [List.length_append]
                omega
              have hTl : a < ((S.map agrE).set a (agrE X.1)).length := hTl0
              have hTg : ((S.map agrE).set a (agrE X.1))[a]? = some (agrE (nthA (S.set a X.1) a)) := hTg0
              repeat' ((conv => whnf); first | refine And.intro (fun h => h) ?_ | refine dcond_t (by assumption) ?_ | refine dcond_f (by assumption) ?_ | (refine dcond_intro ?_ ?_ <;> intro h) | exact .refl | refine And.intro (by kernel_rfl) ?_ | refine And.intro ⟨fun h => h, fun h => h⟩ ?_ | refine ⟨a, And.intro ⟨hixa, hla⟩ ?_⟩ | refine ⟨agrE (nthA S a), And.intro hga ?_⟩ | refine ⟨agrE (nthA S a), hga, ?_⟩ | refine ⟨i, mvE x, And.intro ⟨rfl, hgx⟩ ?_⟩ | refine And.intro hnec ?_ | refine ⟨K, cutE c, And.intro ⟨hixw, hgc⟩ ?_⟩ | refine .inl ⟨_, _, DleAll_refl _, eP, ?_⟩ | refine ⟨_, _, DleAll_refl _, fun _ => eP, ?_⟩ | refine ⟨_, _, DleAll_refl _, eP, ?_⟩ | refine And.intro (fitsC (by simp <;> omega)) ?_ | refine .inr ⟨[2], _, _, _, _, _, espr, by rfl, ⟨.refl, trivial⟩, ⟨.refl, .refl, .refl, trivial⟩, ?_⟩ | refine .inr ⟨[2], _, _, _, _, _, espr, by rfl, ⟨.refl, trivial⟩, ⟨.refl, .refl, .nl, trivial⟩, ?_⟩ | refine ⟨a, And.intro ⟨hixa, hTl⟩ ?_⟩ | refine ⟨agrE (nthA (S.set a X.1) a), And.intro hTg ?_⟩ | refine ⟨a, And.intro ⟨⟨fun h => h, fun h => h⟩, fun _ => ⟨hixa, hTl⟩⟩ ?_⟩ | refine ⟨agrE (nthA (S.set a X.1) a), And.intro ⟨fun h => h, fun _ => hTg⟩ ?_⟩ | refine .inl ⟨_, _, DleAll_refl _, eS, ?_⟩ | refine ⟨_, _, DleAll_refl _, fun _ => eS, ?_⟩ | refine ⟨_, _, DleAll_refl _, eS, ?_⟩ | refine .inl ⟨_, _, DleAll_refl _, eV, ?_⟩ | refine ⟨_, _, DleAll_refl _, fun _ => eV, ?_⟩ | refine ⟨_, _, DleAll_refl _, eV, ?_⟩ | refine Exists.intro false ?_ | (refine And.intro ?_ ?_; focus (simp; done)) | fail)
              all_goals (conv => whnf)
              all_goals first
                | exact (hbad (by assumption) (by assumption)).elim
                | (refine ⟨(i + 1, S.set a X.1, fly ++ spreadR v (X.2.1), Pr ++ [c], (nthA (S.set a X.1) a).dec), ⟨hlt, hY2 (by assumption), hF2 (by assumption), ⟨(by show (Pr ++ [c]).length ≤ i + 1; simp only [List.length_append, List.length_cons, List.length_nil]; omega), hPc2⟩, hdl2⟩, by simp only []; omega, ?_⟩; (conv => whnf); refine ⟨⟨.refl, .refl, .refl, .refl, .refl, .refl, .refl, .refl, dle_int (wrap_succ (by omega)), trivial⟩, ⟨.refl, ?_, ?_, ?_, trivial⟩, by rfl⟩ <;> (first | exact .refl | exact ole_row row_set | exact ole_row pr_app | fail))
                | (refine ⟨(i + 1, S.set a X.1, fly, Pr ++ [c], (nthA (S.set a X.1) a).dec), ⟨hlt, hY1 (by assumption), hfl, ⟨(by show (Pr ++ [c]).length ≤ i + 1; simp only [List.length_append, List.length_cons, List.length_nil]; omega), hPc2⟩, hdl2⟩, by simp only []; omega, ?_⟩; (conv => whnf); refine ⟨⟨.refl, .refl, .refl, .refl, .refl, .refl, .refl, .refl, dle_int (wrap_succ (by omega)), trivial⟩, ⟨.refl, ?_, ?_, ?_, trivial⟩, by rfl⟩ <;> (first | exact .refl | exact ole_row row_set | exact ole_row pr_app | fail))
                | (refine ⟨(i + 1, S.set a X.1, fly ++ spreadR v (X.2.1), Pr ++ [c], d), ⟨hlt, hN2 (by assumption), hF2 (by assumption), ⟨(by show (Pr ++ [c]).length ≤ i + 1; simp only [List.length_append, List.length_cons, List.length_nil]; omega), hPc2⟩, hdl⟩, by simp only []; omega, ?_⟩; (conv => whnf); refine ⟨⟨.refl, .refl, .refl, .refl, .refl, .refl, .refl, .refl, dle_int (wrap_succ (by omega)), trivial⟩, ⟨.refl, ?_, ?_, ?_, trivial⟩, by rfl⟩ <;> (first | exact .refl | exact ole_row row_set | exact ole_row pr_app | fail))
                | (refine ⟨(i + 1, S.set a X.1, fly, Pr ++ [c], d), ⟨hlt, hN1 (by assumption), hfl, ⟨(by show (Pr ++ [c]).length ≤ i + 1; simp only [List.length_append, List.length_cons, List.length_nil]; omega), hPc2⟩, hdl⟩, by simp only []; omega, ?_⟩; (conv => whnf); refine ⟨⟨.refl, .refl, .refl, .refl, .refl, .refl, .refl, .refl, dle_int (wrap_succ (by omega)), trivial⟩, ⟨.refl, ?_, ?_, ?_, trivial⟩, by rfl⟩ <;> (first | exact .refl | exact ole_row row_set | exact ole_row pr_app | fail))
                | fail
            · clear nP gP
              have hM2 := hM
              have hX' : decide (X.2.2 = 0) = false := decide_eq_false hX
              have hTl0 := hla
              have hTg0 := hga
              have hpl2 := hM2.pl
              have hsp := lm_fly hM2
              have espr := m_spread v (by omega) fly ([]) (by omega) (by omega)
              have hspl := spr_len v ([])
              have hspm : ([]).length * v.mem.length ≤ 200 * 7 := Nat.mul_le_mul hpl2 h7
              obtain ⟨t1, t2, t3, t4, t5⟩ := hM2.st a hal
              have eV := c_agreement_Valid (nthA (S) a) (sm_aw t3)
              rw [(agr_iff _).2 ⟨t3, t4⟩] at eV
              have hdl2 := good_len t3.dec
              have eS := c_law10_same d (nthA (S) a).dec (by simp only [maxLen]; omega)
              have hbad := lm_bad hvw hM2 hal
              have hY1 := fun h => lm_some hM2 hal (dec_yes h)
              have hY2 := fun h => lm_some hsp hal (dec_yes h)
              have hN1 := fun h => lm_none hM2 hal (dec_not h)
              have hN2 := fun h => lm_none hsp hal (dec_not h)
              have hF2 : decide (((fly.map pktE).length : Int) < 2000) = true → (fly ++ spreadR v ([])).length ≤ 3400 := fun h => by
                have := of_decide_eq_true h
                rw [List.length_map] at this
                rw [List.length_append]
                omega
              have hTl : a < (S.map agrE).length := hTl0
              have hTg : (S.map agrE)[a]? = some (agrE (nthA (S) a)) := hTg0
              repeat' ((conv => whnf); first | refine And.intro (fun h => h) ?_ | refine dcond_t (by assumption) ?_ | refine dcond_f (by assumption) ?_ | (refine dcond_intro ?_ ?_ <;> intro h) | exact .refl | refine And.intro (by kernel_rfl) ?_ | refine And.intro ⟨fun h => h, fun h => h⟩ ?_ | refine ⟨a, And.intro ⟨hixa, hla⟩ ?_⟩ | refine ⟨agrE (nthA S a), And.intro hga ?_⟩ | refine ⟨agrE (nthA S a), hga, ?_⟩ | refine ⟨i, mvE x, And.intro ⟨rfl, hgx⟩ ?_⟩ | refine And.intro hnec ?_ | refine ⟨K, cutE c, And.intro ⟨hixw, hgc⟩ ?_⟩ | refine .inl ⟨_, _, DleAll_refl _, eP, ?_⟩ | refine ⟨_, _, DleAll_refl _, fun _ => eP, ?_⟩ | refine ⟨_, _, DleAll_refl _, eP, ?_⟩ | refine .inr ⟨[2], _, _, _, _, _, espr, by rfl, ⟨.refl, trivial⟩, ⟨.refl, .refl, .refl, trivial⟩, ?_⟩ | refine .inr ⟨[2], _, _, _, _, _, espr, by rfl, ⟨.refl, trivial⟩, ⟨.refl, .refl, .nl, trivial⟩, ?_⟩ | refine ⟨a, And.intro ⟨hixa, hTl⟩ ?_⟩ | refine ⟨agrE (nthA (S) a), And.intro hTg ?_⟩ | refine ⟨a, And.intro ⟨⟨fun h => h, fun h => h⟩, fun _ => ⟨hixa, hTl⟩⟩ ?_⟩ | refine ⟨agrE (nthA (S) a), And.intro ⟨fun h => h, fun _ => hTg⟩ ?_⟩ | refine .inl ⟨_, _, DleAll_refl _, eS, ?_⟩ | refine ⟨_, _, DleAll_refl _, fun _ => eS, ?_⟩ | refine ⟨_, _, DleAll_refl _, eS, ?_⟩ | refine .inl ⟨_, _, DleAll_refl _, eV, ?_⟩ | refine ⟨_, _, DleAll_refl _, fun _ => eV, ?_⟩ | refine ⟨_, _, DleAll_refl _, eV, ?_⟩ | refine Exists.intro false ?_ | (refine And.intro ?_ ?_; focus (simp; done)) | fail)
              all_goals (conv => whnf)
              all_goals first
                | exact (hbad (by assumption) (by assumption)).elim
                | (refine ⟨(i + 1, S, fly ++ spreadR v ([]), Pr, (nthA (S) a).dec), ⟨hlt, hY2 (by assumption), hF2 (by assumption), ⟨(by show Pr.length ≤ i + 1; omega), hPc⟩, hdl2⟩, by simp only []; omega, ?_⟩; (conv => whnf); refine ⟨⟨.refl, .refl, .refl, .refl, .refl, .refl, .refl, .refl, dle_int (wrap_succ (by omega)), trivial⟩, ⟨.refl, ?_, ?_, ?_, trivial⟩, by rfl⟩ <;> (first | exact .refl | exact ole_row row_set | exact ole_row pr_app | fail))
                | (refine ⟨(i + 1, S, fly, Pr, (nthA (S) a).dec), ⟨hlt, hY1 (by assumption), hfl, ⟨(by show Pr.length ≤ i + 1; omega), hPc⟩, hdl2⟩, by simp only []; omega, ?_⟩; (conv => whnf); refine ⟨⟨.refl, .refl, .refl, .refl, .refl, .refl, .refl, .refl, dle_int (wrap_succ (by omega)), trivial⟩, ⟨.refl, ?_, ?_, ?_, trivial⟩, by rfl⟩ <;> (first | exact .refl | exact ole_row row_set | exact ole_row pr_app | fail))
                | (refine ⟨(i + 1, S, fly ++ spreadR v ([]), Pr, d), ⟨hlt, hN2 (by assumption), hF2 (by assumption), ⟨(by show Pr.length ≤ i + 1; omega), hPc⟩, hdl⟩, by simp only []; omega, ?_⟩; (conv => whnf); refine ⟨⟨.refl, .refl, .refl, .refl, .refl, .refl, .refl, .refl, dle_int (wrap_succ (by omega)), trivial⟩, ⟨.refl, ?_, ?_, ?_, trivial⟩, by rfl⟩ <;> (first | exact .refl | exact ole_row row_set | exact ole_row pr_app | fail))
                | (refine ⟨(i + 1, S, fly, Pr, d), ⟨hlt, hN1 (by assumption), hfl, ⟨(by show Pr.length ≤ i + 1; omega), hPc⟩, hdl⟩, by simp only []; omega, ?_⟩; (conv => whnf); refine ⟨⟨.refl, .refl, .refl, .refl, .refl, .refl, .refl, .refl, dle_int (wrap_succ (by omega)), trivial⟩, ⟨.refl, ?_, ?_, ?_, trivial⟩, by rfl⟩ <;> (first | exact .refl | exact ole_row row_set | exact ole_row pr_app | fail))
                | fail
          · rename_i h0
            clear h h0
            refine ⟨Nat × List Agr × List Pkt, fun y => ⟨[(1, .lst 4 (l.map mvE) false), (2, .lp 0 0), (5, .lst 1 (cuts.map cutE) false), (6, i64 v.mem.length), (7, .own 1), (10, .own 2), (11, .own 3), (12, .lst 1 (d.map intE) false), (13, i64 i), (14, i64 a), (15, .lst 7 (y.2.2.map pktE) false), (19, i64 y.1)], [.cells 24 (viewE v), .row 30 15 (y.2.1.map agrE), .row 62 7 (fly.map pktE), .row 22 1 (Pr.map cutE)]⟩, fun y => y.1 ≤ x.w % 16 + 1 ∧ ∃ g2, LM v y.2.1 fly Pr d g2 a y.2.2, fun y => x.w % 16 + 1 - y.1, [], ⟨(0, S, []), ⟨Nat.zero_le _, g, hM⟩, ?_⟩, ?_⟩
            · conv => whnf
              exact ⟨⟨.refl, .refl, .refl, .refl, .refl, .refl, .refl, .refl, .refl, dle_int hixa, .nl, .refl, trivial⟩, ⟨.refl, .refl, .refl, .refl, trivial⟩, by rfl⟩
            · intro ⟨k, T, ps⟩ ⟨hk, g2, hM2⟩
              simp only at hk hM2
              have hTS := hM2.len
              have hTl0 : a < (T.map agrE).length := by rw [List.length_map, hTS]; exact hal
              have hTg0 := nth_get (S := T) (i := a) (by rw [hTS]; exact hal)
              have hkw : decide ((k : Int) ≤ IntKind.i64.wrap ((x.w : Int).tmod 16)) = true → k + 1 ≤ x.w % 16 + 1 := fun h => by
                have := of_decide_eq_true h
                rw [hixt] at this
                omega
              have hkm : decide ((k : Int) ≤ IntKind.i64.wrap ((x.w : Int).tmod 16)) = true → x.w % 16 + 1 - (k + 1) < x.w % 16 + 1 - k := fun h => by
                have := hkw h
                omega
              have hpl2 := hM2.pl
              have hsp := lm_fly hM2
              have espr := m_spread v (by omega) fly (ps) (by omega) (by omega)
              have hspl := spr_len v (ps)
              have hspm : (ps).length * v.mem.length ≤ 200 * 7 := Nat.mul_le_mul hpl2 h7
              obtain ⟨t1, t2, t3, t4, t5⟩ := hM2.st a hal
              have eV := c_agreement_Valid (nthA (T) a) (sm_aw t3)
              rw [(agr_iff _).2 ⟨t3, t4⟩] at eV
              have hdl2 := good_len t3.dec
              have eS := c_law10_same d (nthA (T) a).dec (by simp only [maxLen]; omega)
              have hbad := lm_bad hvw hM2 hal
              have hY1 := fun h => lm_some hM2 hal (dec_yes h)
              have hY2 := fun h => lm_some hsp hal (dec_yes h)
              have hN1 := fun h => lm_none hM2 hal (dec_not h)
              have hN2 := fun h => lm_none hsp hal (dec_not h)
              have hF2 : decide (((fly.map pktE).length : Int) < 2000) = true → (fly ++ spreadR v (ps)).length ≤ 3400 := fun h => by
                have := of_decide_eq_true h
                rw [List.length_map] at this
                rw [List.length_append]
                omega
              have hTl : a < (T.map agrE).length := hTl0
              have hTg : (T.map agrE)[a]? = some (agrE (nthA (T) a)) := hTg0
              have eT := c_agreement_Tick (nthA T a) (sm_aw t3)
              have nxt := lm_step hvw hM2 hal (g_tick hM2.inv t3 t4 t2 t5) (nice_tick t3 t4) (tick_ps _)
              generalize tickA (nthA T a) = Z at *
              repeat' ((conv => whnf); first | refine And.intro (fun h => h) ?_ | refine dcond_t (by assumption) ?_ | refine dcond_f (by assumption) ?_ | (refine dcond_intro ?_ ?_ <;> intro h) | exact .refl | refine And.intro (by kernel_rfl) ?_ | refine And.intro ⟨fun h => h, fun h => h⟩ ?_ | refine ⟨i, mvE x, And.intro ⟨rfl, hgx⟩ ?_⟩ | refine ⟨agrE (nthA T a), hTg, ?_⟩ | refine .inl ⟨_, _, DleAll_refl _, eT, ?_⟩ | refine ⟨_, _, DleAll_refl _, fun _ => eT, ?_⟩ | refine ⟨_, _, DleAll_refl _, eT, ?_⟩ | refine .inr ⟨[2], _, _, _, _, _, espr, by rfl, ⟨.refl, trivial⟩, ⟨.refl, .refl, .refl, trivial⟩, ?_⟩ | refine .inr ⟨[2], _, _, _, _, _, espr, by rfl, ⟨.refl, trivial⟩, ⟨.refl, .refl, .nl, trivial⟩, ?_⟩ | refine ⟨a, And.intro ⟨rfl, hTl⟩ ?_⟩ | refine ⟨agrE (nthA (T) a), And.intro hTg ?_⟩ | refine ⟨a, And.intro ⟨⟨fun h => h, fun h => h⟩, fun _ => ⟨rfl, hTl⟩⟩ ?_⟩ | refine ⟨agrE (nthA (T) a), And.intro ⟨fun h => h, fun _ => hTg⟩ ?_⟩ | refine .inl ⟨_, _, DleAll_refl _, eS, ?_⟩ | refine ⟨_, _, DleAll_refl _, fun _ => eS, ?_⟩ | refine ⟨_, _, DleAll_refl _, eS, ?_⟩ | refine .inl ⟨_, _, DleAll_refl _, eV, ?_⟩ | refine ⟨_, _, DleAll_refl _, fun _ => eV, ?_⟩ | refine ⟨_, _, DleAll_refl _, eV, ?_⟩ | refine Exists.intro false ?_ | (refine And.intro ?_ ?_; focus (simp; done)) | fail)
              all_goals (conv => whnf)
              all_goals first
                | (refine ⟨(k + 1, T.set a Z.1, Z.2), ⟨hkw (by assumption), nxt⟩, hkm (by assumption), ?_⟩; (conv => whnf); exact ⟨⟨.refl, .refl, .refl, .refl, .refl, .refl, .refl, .refl, .refl, .refl, .refl, dle_int (wrap_succ (by omega)), trivial⟩, ⟨.refl, ole_row row_set, .refl, .refl, trivial⟩, by rfl⟩)
                | exact (hbad (by assumption) (by assumption)).elim
                | (refine ⟨(i + 1, T, fly ++ spreadR v (ps), Pr, (nthA (T) a).dec), ⟨hlt, hY2 (by assumption), hF2 (by assumption), ⟨(by show Pr.length ≤ i + 1; omega), hPc⟩, hdl2⟩, by simp only []; omega, ?_⟩; (conv => whnf); refine ⟨⟨.refl, .refl, .refl, .refl, .refl, .refl, .refl, .refl, dle_int (wrap_succ (by omega)), trivial⟩, ⟨.refl, ?_, ?_, ?_, trivial⟩, by rfl⟩ <;> (first | exact .refl | exact ole_row row_set | exact ole_row pr_app | fail))
                | (refine ⟨(i + 1, T, fly, Pr, (nthA (T) a).dec), ⟨hlt, hY1 (by assumption), hfl, ⟨(by show Pr.length ≤ i + 1; omega), hPc⟩, hdl2⟩, by simp only []; omega, ?_⟩; (conv => whnf); refine ⟨⟨.refl, .refl, .refl, .refl, .refl, .refl, .refl, .refl, dle_int (wrap_succ (by omega)), trivial⟩, ⟨.refl, ?_, ?_, ?_, trivial⟩, by rfl⟩ <;> (first | exact .refl | exact ole_row row_set | exact ole_row pr_app | fail))
                | (refine ⟨(i + 1, T, fly ++ spreadR v (ps), Pr, d), ⟨hlt, hN2 (by assumption), hF2 (by assumption), ⟨(by show Pr.length ≤ i + 1; omega), hPc⟩, hdl⟩, by simp only []; omega, ?_⟩; (conv => whnf); refine ⟨⟨.refl, .refl, .refl, .refl, .refl, .refl, .refl, .refl, dle_int (wrap_succ (by omega)), trivial⟩, ⟨.refl, ?_, ?_, ?_, trivial⟩, by rfl⟩ <;> (first | exact .refl | exact ole_row row_set | exact ole_row pr_app | fail))
                | (refine ⟨(i + 1, T, fly, Pr, d), ⟨hlt, hN1 (by assumption), hfl, ⟨(by show Pr.length ≤ i + 1; omega), hPc⟩, hdl⟩, by simp only []; omega, ?_⟩; (conv => whnf); refine ⟨⟨.refl, .refl, .refl, .refl, .refl, .refl, .refl, .refl, dle_int (wrap_succ (by omega)), trivial⟩, ⟨.refl, ?_, ?_, ?_, trivial⟩, by rfl⟩ <;> (first | exact .refl | exact ole_row row_set | exact ole_row pr_app | fail))
                | fail
          · clear h
            refine ⟨(i + 1, S, fly, Pr, d), ⟨hlt, ⟨g, hL⟩, hfl, ⟨(by show Pr.length ≤ i + 1; omega), hPc⟩, hdl⟩, by simp only []; omega, ?_⟩
            conv => whnf
            exact ⟨⟨.refl, .refl, .refl, .refl, .refl, .refl, .refl, .refl, dle_int (wrap_succ (by omega)), trivial⟩, ⟨.refl, .refl, .refl, .refl, trivial⟩, by rfl⟩
          · have hfp : 0 < fly.length := by
              rw [List.length_map] at h
              have h9 := of_decide_eq_false h
              rcases Nat.eq_zero_or_pos fly.length with h8 | h8
              · rw [h8] at h9
                exact absurd rfl h9
              · exact h8
            clear h
            have hnf : ((fly.map pktE).length : Int) ≠ 0 := by rw [List.length_map]; omega
            obtain ⟨k, hk⟩ : ∃ k, k = x.n % fly.length := ⟨_, rfl⟩
            have hkl : k < fly.length := by rw [hk]; exact Nat.mod_lt _ hfp
            have hixk : (IntKind.i64.wrap (x.n : Int)).tmod ((fly.map pktE).length : Int) = (k : Int) := by
              rw [List.length_map, wrap_i64 (by omega) (by omega), hk]
              rfl
            clear hk
            have hkf : k < (fly.map pktE).length := by rw [List.length_map]; exact hkl
            have hgf : (fly.map pktE)[k]? = some (pktE fly[k]) := get_map hkl
            cases h3 : decide ((x.kd : Int).tmod 4 = 3)
            · obtain ⟨f1, f2, f3, f4⟩ := hL.fl fly[k] (List.getElem_mem hkl)
              obtain ⟨f, hf⟩ : ∃ f, f = fly[k] := ⟨_, rfl⟩
              rw [← hf] at hgf f1 f2 f3 f4
              clear hf
              obtain ⟨b, hbl, hbp, hbm⟩ := place_at f2
              obtain ⟨r1, r2, r3, r4, r5⟩ := hL.st b hbl
              have hM3 := lm_any hL b
              have hgr := g_rec hL.inv r3 r4 r2 r5 f1 (by rw [r1, hbm]; exact f3) f4
              have nR := fun h => @nice_rec (nthA S b) r3 r4 f.m h
              have eR := c_agreement_Receive (nthA S b) (sm_aw r3) f.m (by have := vm_len f1; omega)
              have lR := rec_ps (nthA S b) f.m
              have ePl := c_ref3_Place v.mem hv f.to
              rw [hbp] at ePl
              generalize recA (nthA S b) f.m = X at *
              obtain ⟨hX, hres⟩ := hgr
              rw [hX] at eR
              obtain ⟨g2, hM2⟩ := lm_step (x := (X.1, X.2.1)) hvw hM3 hbl hres (nR hX) lR
              simp only [] at hM2
              clear nR hres hM3
              have hlb : b < (S.map agrE).length := by rw [List.length_map, hSl]; exact hbl
              have hgb := nth_get (S := S) (i := b) (by rw [hSl]; exact hbl)
              have hTl0 : b < ((S.map agrE).set b (agrE X.1)).length := by rw [row_len, hSl]; exact hbl
              have hTg0 := row_get (x := X.1) (show b < S.length by rw [hSl]; exact hbl)
              have hpl2 := hM2.pl
              have hsp := lm_fly hM2
              have espr := m_spread v (by omega) fly (X.2.1) (by omega) (by omega)
              have hspl := spr_len v (X.2.1)
              have hspm : (X.2.1).length * v.mem.length ≤ 200 * 7 := Nat.mul_le_mul hpl2 h7
              obtain ⟨t1, t2, t3, t4, t5⟩ := hM2.st b hbl
              have eV := c_agreement_Valid (nthA (S.set b X.1) b) (sm_aw t3)
              rw [(agr_iff _).2 ⟨t3, t4⟩] at eV
              have hdl2 := good_len t3.dec
              have eS := c_law10_same d (nthA (S.set b X.1) b).dec (by simp only [maxLen]; omega)
              have hbad := lm_bad hvw hM2 hbl
              have hY1 := fun h => lm_some hM2 hbl (dec_yes h)
              have hY2 := fun h => lm_some hsp hbl (dec_yes h)
              have hN1 := fun h => lm_none hM2 hbl (dec_not h)
              have hN2 := fun h => lm_none hsp hbl (dec_not h)
              have hF2 : decide (((fly.map pktE).length : Int) < 2000) = true → (fly ++ spreadR v (X.2.1)).length ≤ 3400 := fun h => by
                have := of_decide_eq_true h
                rw [List.length_map] at this
                rw [List.length_append]
                omega
              have hTl : b < ((S.map agrE).set b (agrE X.1)).length := hTl0
              have hTg : ((S.map agrE).set b (agrE X.1))[b]? = some (agrE (nthA (S.set b X.1) b)) := hTg0
              repeat' ((conv => whnf); first | refine And.intro (fun h => h) ?_ | refine dcond_t (by assumption) ?_ | refine dcond_f (by assumption) ?_ | (refine dcond_intro ?_ ?_ <;> intro h) | exact .refl | refine And.intro (by kernel_rfl) ?_ | refine And.intro ⟨fun h => h, fun h => h⟩ ?_ | refine And.intro hnf ?_ | refine ⟨i, mvE x, And.intro ⟨rfl, hgx⟩ ?_⟩ | refine ⟨k, And.intro ⟨hixk, hkf⟩ ?_⟩ | refine ⟨pktE f, And.intro hgf ?_⟩ | refine .inl ⟨_, _, DleAll_refl _, ePl, ?_⟩ | refine ⟨_, _, DleAll_refl _, fun _ => ePl, ?_⟩ | refine ⟨_, _, DleAll_refl _, ePl, ?_⟩ | refine ⟨b, And.intro ⟨rfl, hlb⟩ ?_⟩ | refine ⟨agrE (nthA S b), And.intro hgb ?_⟩ | refine ⟨agrE (nthA S b), hgb, ?_⟩ | refine .inl ⟨_, _, DleAll_refl _, eR, ?_⟩ | refine ⟨_, _, DleAll_refl _, fun _ => eR, ?_⟩ | refine ⟨_, _, DleAll_refl _, eR, ?_⟩ | refine .inr ⟨[2], _, _, _, _, _, espr, by rfl, ⟨.refl, trivial⟩, ⟨.refl, .refl, .refl, trivial⟩, ?_⟩ | refine .inr ⟨[2], _, _, _, _, _, espr, by rfl, ⟨.refl, trivial⟩, ⟨.refl, .refl, .nl, trivial⟩, ?_⟩ | refine ⟨b, And.intro ⟨rfl, hTl⟩ ?_⟩ | refine ⟨agrE (nthA (S.set b X.1) b), And.intro hTg ?_⟩ | refine ⟨b, And.intro ⟨⟨fun h => h, fun h => h⟩, fun _ => ⟨rfl, hTl⟩⟩ ?_⟩ | refine ⟨agrE (nthA (S.set b X.1) b), And.intro ⟨fun h => h, fun _ => hTg⟩ ?_⟩ | refine .inl ⟨_, _, DleAll_refl _, eS, ?_⟩ | refine ⟨_, _, DleAll_refl _, fun _ => eS, ?_⟩ | refine ⟨_, _, DleAll_refl _, eS, ?_⟩ | refine .inl ⟨_, _, DleAll_refl _, eV, ?_⟩ | refine ⟨_, _, DleAll_refl _, fun _ => eV, ?_⟩ | refine ⟨_, _, DleAll_refl _, eV, ?_⟩ | refine Exists.intro false ?_ | (refine And.intro ?_ ?_; focus (simp; done)) | fail)
              all_goals (conv => whnf)
              all_goals first
                | exact (hbad (by assumption) (by assumption)).elim
                | (refine ⟨(i + 1, S.set b X.1, fly ++ spreadR v (X.2.1), Pr, (nthA (S.set b X.1) b).dec), ⟨hlt, hY2 (by assumption), hF2 (by assumption), ⟨(by show Pr.length ≤ i + 1; omega), hPc⟩, hdl2⟩, by simp only []; omega, ?_⟩; (conv => whnf); refine ⟨⟨.refl, .refl, .refl, .refl, .refl, .refl, .refl, .refl, dle_int (wrap_succ (by omega)), trivial⟩, ⟨.refl, ?_, ?_, ?_, trivial⟩, by rfl⟩ <;> (first | exact .refl | exact ole_row row_set | exact ole_row pr_app | fail))
                | (refine ⟨(i + 1, S.set b X.1, fly, Pr, (nthA (S.set b X.1) b).dec), ⟨hlt, hY1 (by assumption), hfl, ⟨(by show Pr.length ≤ i + 1; omega), hPc⟩, hdl2⟩, by simp only []; omega, ?_⟩; (conv => whnf); refine ⟨⟨.refl, .refl, .refl, .refl, .refl, .refl, .refl, .refl, dle_int (wrap_succ (by omega)), trivial⟩, ⟨.refl, ?_, ?_, ?_, trivial⟩, by rfl⟩ <;> (first | exact .refl | exact ole_row row_set | exact ole_row pr_app | fail))
                | (refine ⟨(i + 1, S.set b X.1, fly ++ spreadR v (X.2.1), Pr, d), ⟨hlt, hN2 (by assumption), hF2 (by assumption), ⟨(by show Pr.length ≤ i + 1; omega), hPc⟩, hdl⟩, by simp only []; omega, ?_⟩; (conv => whnf); refine ⟨⟨.refl, .refl, .refl, .refl, .refl, .refl, .refl, .refl, dle_int (wrap_succ (by omega)), trivial⟩, ⟨.refl, ?_, ?_, ?_, trivial⟩, by rfl⟩ <;> (first | exact .refl | exact ole_row row_set | exact ole_row pr_app | fail))
                | (refine ⟨(i + 1, S.set b X.1, fly, Pr, d), ⟨hlt, hN1 (by assumption), hfl, ⟨(by show Pr.length ≤ i + 1; omega), hPc⟩, hdl⟩, by simp only []; omega, ?_⟩; (conv => whnf); refine ⟨⟨.refl, .refl, .refl, .refl, .refl, .refl, .refl, .refl, dle_int (wrap_succ (by omega)), trivial⟩, ⟨.refl, ?_, ?_, ?_, trivial⟩, by rfl⟩ <;> (first | exact .refl | exact ole_row row_set | exact ole_row pr_app | fail))
                | fail
            · have hD := lw_drop ⟨g, hL⟩ k
              have hDl : (fly.take k ++ fly.drop (k + 1)).length ≤ 3400 := by
                rw [List.length_append, List.length_take, List.length_drop]
                omega
              have hle0 : k ≤ (fly.map pktE).length := by omega
              have hk1 : IntKind.i64.wrap ((IntKind.i64.wrap (x.n : Int)).tmod ((fly.map pktE).length : Int) + 1) = ((k + 1 : Nat) : Int) := by
                rw [hixk]
                exact wrap_succ (by omega)
              have hle1 : k + 1 ≤ (fly.map pktE).length := by omega
              repeat' ((conv => whnf); first | refine And.intro (fun h => h) ?_ | refine dcond_t (by assumption) ?_ | refine dcond_f (by assumption) ?_ | (refine dcond_intro ?_ ?_ <;> intro h) | exact .refl | refine And.intro (by kernel_rfl) ?_ | refine And.intro ⟨fun h => h, fun h => h⟩ ?_ | refine And.intro hnf ?_ | refine ⟨i, mvE x, And.intro ⟨rfl, hgx⟩ ?_⟩ | refine ⟨0, k, And.intro ⟨rfl, ⟨.i64, congrArg (fun z => DV.v (.int .i64 z)) hixk⟩, Nat.zero_le _, hle0⟩ ?_⟩ | refine ⟨k + 1, And.intro ⟨⟨.i64, congrArg (fun z => DV.v (.int .i64 z)) hk1⟩, hle1⟩ ?_⟩ | refine And.intro (fitsFl (by simp <;> omega)) ?_ | refine Exists.intro false ?_ | (refine And.intro ?_ ?_; focus (simp; done)) | fail)
              all_goals (conv => whnf)
              refine ⟨(i + 1, S, fly.take k ++ fly.drop (k + 1), Pr, d), ⟨hlt, hD, hDl, ⟨(by show Pr.length ≤ i + 1; omega), hPc⟩, hdl⟩, by simp only []; omega, ?_⟩
              conv => whnf
              exact ⟨⟨.refl, .refl, .refl, .refl, .refl, .refl, .refl, .refl, dle_int (wrap_succ (by omega)), trivial⟩, ⟨.refl, .refl, ole_row drop_row, .refl, trivial⟩, by rfl⟩
        · have hil : i = l.length := by
            have := of_decide_eq_false h
            rw [List.length_map] at this
            omega
          clear h
          subst hil
          have hfin : (decide (((d.map intE).length : Int) = 0) || Pr.any fun c => sameI c d) = true := by
            by_cases hd : d = []
            · rw [hd]
              rfl
            · have hp := hL.pr d (dec_prop hn.1 hL.inv (hL.dd hd))
              rw [Bool.or_eq_true]
              right
              rw [List.any_eq_true]
              exact ⟨d, hp, sameI_refl d⟩
          refine ⟨Nat, fun k => ⟨[(6, i64 v.mem.length), (7, .own 1), (11, .own 3), (12, .lst 1 (d.map intE) false), (24, .v (.bool (decide (((d.map intE).length : Int) = 0) || (Pr.take k).any fun c => sameI c d))), (25, i64 k)], [.cells 24 (viewE v), .row 30 15 (S.map agrE), .row 62 7 (fly.map pktE), .row 22 1 (Pr.map cutE)]⟩, fun k => k ≤ Pr.length, fun k => Pr.length - k, [], ⟨0, Nat.zero_le _, ?_⟩, ?_⟩
          · conv => whnf
            exact ⟨⟨.refl, .refl, .refl, .refl, dle_bool (by simp), .refl, trivial⟩, ⟨.refl, .refl, .refl, .refl, trivial⟩, by rfl⟩
          · intro k hk
            repeat' ((conv => whnf); first | refine And.intro (fun h => h) ?_ | refine dcond_t (by assumption) ?_ | refine dcond_f (by assumption) ?_ | (refine dcond_intro ?_ ?_ <;> intro h) | exact .refl | refine And.intro (by kernel_rfl) ?_ | refine And.intro ⟨fun h => h, fun h => h⟩ ?_ | refine Exists.intro false ?_ | (refine And.intro ?_ ?_; focus (simp; done)) | fail)
            all_goals (conv => whnf)
            · have hkl : k < Pr.length := by simpa using h
              clear h
              have hlen : k < (Pr.map cutE).length := by rw [List.length_map]; exact hkl
              have hg : (Pr.map cutE)[k]? = some (cutE Pr[k]) := get_map hkl
              have hcl := hPc _ (List.getElem_mem hkl)
              have hst : (Pr.take (k + 1)).any (fun c => sameI c d) = ((Pr.take k).any (fun c => sameI c d) || sameI Pr[k] d) := by
                rw [List.take_succ_eq_append_getElem hkl, List.any_append]
                simp
              obtain ⟨c, hc⟩ : ∃ c, c = Pr[k] := ⟨_, rfl⟩
              rw [← hc] at hg hcl hst
              have eS := c_law10_same c d (by simp only [maxLen]; omega)
              generalize (Pr.take k).any (fun c => sameI c d) = B at *
              generalize sameI c d = Q at *
              repeat' ((conv => whnf); first | refine And.intro (fun h => h) ?_ | refine dcond_t (by assumption) ?_ | refine dcond_f (by assumption) ?_ | (refine dcond_intro ?_ ?_ <;> intro h) | exact .refl | refine And.intro (by kernel_rfl) ?_ | refine And.intro ⟨fun h => h, fun h => h⟩ ?_ | refine ⟨k, And.intro ⟨⟨fun h => h, fun h => h⟩, fun _ => ⟨rfl, hlen⟩⟩ ?_⟩ | refine ⟨cutE c, And.intro ⟨fun h => h, fun _ => hg⟩ ?_⟩ | refine .inl ⟨_, _, DleAll_refl _, eS, ?_⟩ | refine ⟨_, _, DleAll_refl _, fun _ => eS, ?_⟩ | refine ⟨_, _, DleAll_refl _, eS, ?_⟩ | refine Exists.intro false ?_ | (refine And.intro ?_ ?_; focus (simp; done)) | fail)
              all_goals (conv => whnf)
              refine ⟨k + 1, hkl, by simp only []; omega, ?_⟩
              conv => whnf
              refine ⟨⟨.refl, .refl, .refl, .refl, dle_bool ?_, dle_int (wrap_succ (by omega)), trivial⟩, ⟨.refl, .refl, .refl, .refl, trivial⟩, by rfl⟩
              rw [hst, ← Bool.or_assoc]
            · have hke : k = Pr.length := by
                have := of_decide_eq_false h
                rw [List.length_map] at this
                omega
              clear h
              subst hke
              rw [List.take_length, hfin]
              refine ⟨Nat, fun j => ⟨[(6, i64 v.mem.length), (7, .own 1), (12, .lst 1 (d.map intE) false), (24, .v (.bool true)), (26, i64 j)], [.cells 24 (viewE v), .row 30 15 (S.map agrE), .row 62 7 (fly.map pktE), .row 22 1 (Pr.map cutE)]⟩, fun j => j ≤ v.mem.length, fun j => v.mem.length - j, [], ⟨0, Nat.zero_le _, ?_⟩, ?_⟩
              · conv => whnf
                exact ⟨⟨.refl, .refl, .refl, .refl, .refl, trivial⟩, ⟨.refl, .refl, .refl, .refl, trivial⟩, by rfl⟩
              · intro j hj
                repeat' ((conv => whnf); first | refine And.intro (fun h => h) ?_ | refine dcond_t (by assumption) ?_ | refine dcond_f (by assumption) ?_ | (refine dcond_intro ?_ ?_ <;> intro h) | exact .refl | refine And.intro (by kernel_rfl) ?_ | refine And.intro ⟨fun h => h, fun h => h⟩ ?_ | refine Exists.intro false ?_ | (refine And.intro ?_ ?_; focus (simp; done)) | fail)
                all_goals (conv => whnf)
                · have hjl : j < v.mem.length := by simpa using h
                  clear h
                  have hlen : j < (S.map agrE).length := by rw [List.length_map, hSl]; exact hjl
                  have hg := nth_get (S := S) (i := j) (by rw [hSl]; exact hjl)
                  obtain ⟨u1, u2, u3, u4, u5⟩ := hL.st j hjl
                  have hul := good_len u3.dec
                  have hyes : (decide ((((nthA S j).dec.map intE).length : Int) = 0) || sameI (nthA S j).dec d) = true := by
                    by_cases he : (nthA S j).dec = []
                    · rw [he]
                      rfl
                    · have hd : d ≠ [] := fun e => he (hL.d0 e j hjl (by omega))
                      rw [dec_same hn.1 hL.inv (u5.re.dec he) (hL.dd hd), sameI_refl, Bool.or_true]
                  have eS := c_law10_same (nthA S j).dec d (by simp only [maxLen]; omega)
                  generalize nthA S j = Z at *
                  generalize sameI Z.dec d = Q at *
                  repeat' ((conv => whnf); first | refine And.intro (fun h => h) ?_ | refine dcond_t (by assumption) ?_ | refine dcond_f (by assumption) ?_ | (refine dcond_intro ?_ ?_ <;> intro h) | exact .refl | refine And.intro (by kernel_rfl) ?_ | refine And.intro ⟨fun h => h, fun h => h⟩ ?_ | refine ⟨j, And.intro ⟨rfl, hlen⟩ ?_⟩ | refine ⟨agrE Z, And.intro hg ?_⟩ | refine ⟨j, And.intro ⟨⟨fun h => h, fun h => h⟩, fun _ => ⟨rfl, hlen⟩⟩ ?_⟩ | refine ⟨agrE Z, And.intro ⟨fun h => h, fun _ => hg⟩ ?_⟩ | refine .inl ⟨_, _, DleAll_refl _, eS, ?_⟩ | refine ⟨_, _, DleAll_refl _, fun _ => eS, ?_⟩ | refine ⟨_, _, DleAll_refl _, eS, ?_⟩ | refine Exists.intro false ?_ | (refine And.intro ?_ ?_; focus (simp; done)) | fail)
                  all_goals (conv => whnf)
                  refine ⟨j + 1, hjl, by simp only []; omega, ?_⟩
                  conv => whnf
                  exact ⟨⟨.refl, .refl, .refl, dle_bool hyes, dle_int (wrap_succ (by omega)), trivial⟩, ⟨.refl, .refl, .refl, .refl, trivial⟩, by rfl⟩
end Go.Proofs.Ytmbniilpgbjcfaa

set_option maxRecDepth 100000
namespace Go.Proofs.Ytmbniilpgbjcfaa
open Go.Lift
theorem dat_mv {n : Nat} {r : List DV} (h : Dat tt (n + 2) 59 r) : ∃ x : Mv, r = mvE x ∧ okMv x := by
  obtain ⟨_, _, rfl, ⟨a, rfl, ha⟩, _, _, rfl, ⟨b, rfl, hb⟩, _, _, rfl, ⟨c, rfl, hc⟩, _, _, rfl, ⟨d, rfl, hd⟩, rfl⟩ := h
  have ha := bounds_u8 (by exact ha)
  have hb := bounds_u8 (by exact hb)
  have hc := bounds_u8 (by exact hc)
  have hd := bounds_u16 (by exact hd)
  refine ⟨⟨a.toNat, b.toNat, c.toNat, d.toNat⟩, ?_, ?_⟩
  · simp only [mvE]
    rw [Int.toNat_of_nonneg (by omega), Int.toNat_of_nonneg (by omega), Int.toNat_of_nonneg (by omega), Int.toNat_of_nonneg (by omega)]
    rfl
  · refine ⟨?_, ?_, ?_, ?_⟩ <;> simp only [] <;> omega
theorem dat_mvs {n : Nat} {r : List DV} (h : Dat tt (n + 3) 51 r) : ∃ l : List Mv, r = [.lst 4 (l.map mvE) false] ∧ l.length ≤ maxLen ∧ ∀ x ∈ l, okMv x := by
  obtain ⟨es, rfl, hl, hes⟩ := h
  obtain ⟨d, rfl, hd⟩ := list_data (f := mvE) (Q := okMv) (fun r hr => dat_mv (n := n) (hes r hr))
  exact ⟨d, rfl, by simpa using hl, hd⟩
theorem law_AgreeSafety (dvs : List DV) (h : DatAll tt 6 [24, 51] dvs) : Ret Try.prog 5 dvs (.v (.bool true)) := by
  obtain ⟨a1, _, rfl, h1, a2, _, rfl, h2, rfl⟩ := h
  obtain ⟨v, rfl, hv⟩ := dat_view (n := 3) h1
  obtain ⟨l, rfl, hl, hok⟩ := dat_mvs (n := 3) h2
  exact r_AgreeSafety v hv l hl hok
end Go.Proofs.Ytmbniilpgbjcfaa
