/- The laws of this seat, part R9: contracts of the functions, plain laws. No conditions. -/
import Derived.Test.YtmfgjjnmfahcjaaQ9
set_option linter.unusedSimpArgs false
set_option linter.unusedVariables false
namespace Go.Proofs.Ytmfgjjnmfahcjaa
open Go.Lift
theorem r51 (l : List Rpt) (hl : l.length ≤ 500000) (hc : ∀ r ∈ l, r.cut.length ≤ 1000000) : Ret Try.prog 51 [.lst 3 (l.map rptE) false] (.lst 3 (l.map rptE) false) :=
  ret_of_retM (m51 l hl hc) .refl
/-- how many reports at the front are of members below 'm' -/
def frontN : List Rpt → Int → Nat
  | [], _ => 0
  | r :: l, m => if r.mem < m then frontN l m + 1 else 0
theorem frontN_le (l : List Rpt) (m : Int) : frontN l m ≤ l.length := by
  induction l with
  | nil => exact Nat.le_refl _
  | cons r l ih => simp only [frontN, List.length_cons]; split <;> omega
theorem frontN_lt {m : Int} : ∀ {l : List Rpt} {i : Nat}, i < frontN l m → (hl : i < l.length) → l[i].mem < m
  | r :: l, i, h, hl => by
    simp only [frontN] at h
    split at h
    · rename_i hr
      cases i with
      | zero => exact hr
      | succ i => exact frontN_lt (l := l) (by omega) (by simpa using hl)
    · omega
theorem frontN_at {m : Int} : ∀ {l : List Rpt} {i : Nat} (hl : i < l.length), (∀ j, (hj : j < i) → (l[j]'(by omega)).mem < m) → ¬ l[i].mem < m → frontN l m = i
  | r :: l, 0, hl, h, hn => by simp only [frontN]; exact if_neg hn
  | r :: l, i + 1, hl, h, hn => by
    have h0 : r.mem < m := h 0 (by omega)
    simp only [frontN, if_pos h0]
    exact congrArg (· + 1) (frontN_at (l := l) (by simpa using hl) (fun j hj => h (j + 1) (by omega)) hn)
theorem frontN_all {m : Int} : ∀ {l : List Rpt}, (∀ j, (hj : j < l.length) → l[j].mem < m) → frontN l m = l.length
  | [], _ => rfl
  | r :: l, h => by
    have h0 : r.mem < m := h 0 (by simp)
    simp only [frontN, if_pos h0, List.length_cons]
    exact congrArg (· + 1) (frontN_all (l := l) fun j hj => h (j + 1) (by simpa using hj))
def insR (l : List Rpt) (r : Rpt) : List Rpt := l.take (frontN l r.mem) ++ [r] ++ l.drop (frontN l r.mem)
def addR (v : View) (l : List Rpt) (r : Rpt) : List Rpt × Bool :=
  bif !repsB v l then ([], false) else bif !repsB v (insR l r) then (l, false) else (insR l r, true)
theorem insR_len (l : List Rpt) (r : Rpt) : (insR l r).length = l.length + 1 := by
  have := frontN_le l r.mem
  simp [insR]; omega
theorem insR_mem {l : List Rpt} {r x : Rpt} (h : x ∈ insR l r) : x = r ∨ x ∈ l := by
  simp only [insR, List.mem_append, List.mem_singleton] at h
  rcases h with (h | h) | h
  · exact .inr (List.mem_of_mem_take h)
  · exact .inl h
  · exact .inr (List.mem_of_mem_drop h)
theorem fitsR {n : Nat} (h : n ≤ 2000000) : fitsIn tt 32 n := by
  have e : (tinfo tt 32).bytes = 40 := by kernel_rfl
  refine ⟨?_, ?_⟩
  · rw [e]; omega
  · simp only [maxLen]; omega
set_option maxRecDepth 100000 in
theorem r30 (v : View) (hv : v.mem.length ≤ 400000) (l : List Rpt) (hl : l.length ≤ 400000) (hc : ∀ r ∈ l, r.cut.length ≤ 400000) (r : Rpt) (hr : r.cut.length ≤ 400000) :
    Ret Try.prog 30 [.agg (viewE v), .lst 3 (l.map rptE) false, .agg (rptE r)] (.tup [.lst 3 ((addR v l r).1.map rptE) false, .v (.bool (addR v l r).2)]) := by
  have hlm : l.length ≤ maxLen := Nat.le_trans hl (by decide)
  have e33 := r33 v (Nat.le_trans hv (by omega)) l hlm (fun x hx => Nat.le_trans (hc x hx) (by omega))
  have hil := insR_len l r
  have e33b := r33 v (Nat.le_trans hv (by omega)) (insR l r) (by simp only [maxLen]; omega) (fun x hx => by
    rcases insR_mem hx with rfl | hx
    · omega
    · exact Nat.le_trans (hc x hx) (by omega))
  have e51 := r51 l (by omega) (fun x hx => Nat.le_trans (hc x hx) (by omega))
  have e51b := r51 (insR l r) (by omega) (fun x hx => by
    rcases insR_mem hx with rfl | hx
    · omega
    · exact Nat.le_trans (hc x hx) (by omega))
  refine ret_of_body (fn := Try.f30) (c := Try.f30.body.getD .skip) hm hT (by kernel_rfl) Try.func30 (by kernel_rfl) (by kernel_rfl) (by kernel_rfl) (by kernel_rfl) ?_
  repeat' ((conv => whnf); first | refine And.intro (fun h => h) ?_ | refine dcond_t (by assumption) ?_ | refine dcond_f (by assumption) ?_ | (refine dcond_intro ?_ ?_ <;> intro h) | exact .refl | refine And.intro (by kernel_rfl) ?_ | refine And.intro ⟨fun h => h, fun h => h⟩ ?_ | refine .inl ⟨_, _, DleAll_refl _, e33, ?_⟩ | refine ⟨_, _, DleAll_refl _, fun _ => e33, ?_⟩ | refine ⟨_, _, DleAll_refl _, e33, ?_⟩ | (refine And.intro ?_ ?_; focus (simp; done)) | fail)
  all_goals (conv => whnf)
  · simp only [addR, h, cond_true]
    exact dle_tupA ⟨.nl, .refl, trivial⟩
  · have h0 := h
    clear h
    refine ⟨Nat, fun i => ⟨[(1, .lst 3 (l.map rptE) false), (3, .lp 0 0), (5, .lp 1 0), (8, i64 i)], [.cells 44 (viewE v), .cells 32 (rptE r)]⟩, fun i => i ≤ l.length ∧ ∀ j, (hj : j < l.length) → j < i → l[j].mem < r.mem, fun i => l.length - i, [], ⟨0, ⟨Nat.zero_le _, fun j _ hj => by omega⟩, ?_⟩, ?_⟩
    · exact ⟨by repeat' ((conv => whnf); first | exact trivial | refine And.intro (by (conv => arg 1; whnf); first | (with_reducible exact .refl) | exact dle_int (wrap_succ (by omega)) | exact .refl) ?_), by repeat' ((conv => whnf); first | exact trivial | refine And.intro ?_ ?_ | exact .refl), rfl⟩
    · intro i ⟨hi, hall⟩
      have hix : ∃ x : Rpt, (i < l.length → (l.map rptE)[i]? = some (rptE x)) ∧ ∀ (hil : i < l.length), x = l[i] := by
        by_cases hil : i < l.length
        · exact ⟨l[i], fun _ => get_map hil, fun _ => rfl⟩
        · exact ⟨r, fun hn => absurd hn hil, fun hn => absurd hn hil⟩
      obtain ⟨x, hx1, hx2⟩ := hix
      repeat' ((conv => whnf); first | refine And.intro (fun h => h) ?_ | refine dcond_t (by assumption) ?_ | refine dcond_f (by assumption) ?_ | (refine dcond_intro ?_ ?_ <;> intro h) | exact .refl | refine And.intro (by kernel_rfl) ?_ | refine And.intro ⟨fun h => h, fun h => h⟩ ?_ | refine ⟨i, rptE x, And.intro ⟨⟨fun h => h, fun h => h⟩, fun hg => ⟨rfl, hx1 (by simpa using hg)⟩⟩ ?_⟩ | (refine And.intro ?_ ?_; focus (simp; done)) | fail)
      · have hil : i < l.length := by simpa using ((Bool.and_eq_true ..).mp h).1
        have hlt : l[i].mem < r.mem := by
          have := ((Bool.and_eq_true ..).mp h).2
          rw [hx2 hil] at this
          simpa using this
        clear h
        repeat' ((conv => whnf); first | refine And.intro (fun h => h) ?_ | refine dcond_t (by assumption) ?_ | refine dcond_f (by assumption) ?_ | (refine dcond_intro ?_ ?_ <;> intro h) | exact .refl | refine And.intro (by kernel_rfl) ?_ | refine And.intro ⟨fun h => h, fun h => h⟩ ?_ | (refine And.intro ?_ ?_; focus (simp; done)) | fail)
        all_goals (conv => whnf)
        refine ⟨i + 1, ⟨hil, fun j hj hji => ?_⟩, by simp only []; omega, ?_⟩
        · rcases Nat.lt_succ_iff_lt_or_eq.mp hji with h1 | rfl
          · exact hall j hj h1
          · exact hlt
        · exact ⟨⟨.refl, .refl, .refl, dle_int (wrap_succ (by omega)), trivial⟩, ⟨.refl, .refl, trivial⟩, rfl⟩
      · have hf : frontN l r.mem = i := by
          rcases Nat.lt_or_ge i l.length with hil | hil
          · refine frontN_at hil (fun j hj => hall j (by omega) hj) ?_
            intro hlt
            rw [hx2 hil] at h
            simp [hil, hlt] at h
          · have : i = l.length := by omega
            subst this
            exact frontN_all fun j hj => hall j hj hj
        clear h
        have m51i : RetM Try.prog 51 [] [DV.lst 3 (((l.map rptE).take i).drop 0) false] [] [LObj.row 32 3 ((l.take i).map rptE)] (DV.own 0) := by
          have := m51 (l.take i) (by simp; omega) (fun x hx => Nat.le_trans (hc x (List.mem_of_mem_take hx)) (by omega))
          rw [← List.map_take]
          exact this
        have hlen : (l.take i).length = i := by simp; omega
        have hlm : i ≤ (l.map rptE).length := by simpa using hi
        repeat' ((conv => whnf); first | refine And.intro (fun h => h) ?_ | refine dcond_t (by assumption) ?_ | refine dcond_f (by assumption) ?_ | (refine dcond_intro ?_ ?_ <;> intro h) | exact .refl | refine And.intro (by kernel_rfl) ?_ | refine And.intro ⟨fun h => h, fun h => h⟩ ?_ | refine ⟨0, i, And.intro ⟨rfl, ⟨_, rfl⟩, Nat.zero_le _, hlm⟩ ?_⟩ | refine .inr ⟨[], [], _, [], _, _, m51i, by rfl, trivial, ⟨.refl, trivial⟩, ?_⟩ | refine And.intro (fitsR (by simp <;> omega)) ?_ | refine ⟨i, And.intro ⟨⟨_, rfl⟩, hlm⟩ ?_⟩ | (refine And.intro ?_ ?_; focus (simp; done)) | fail)
        have hins : List.map rptE (List.take i l) ++ (List.replicate 1 (tinfo tt 32).zero).set 0 (dcells (.agg [.v (.int .i64 r.mem), .v (.int .i64 r.rank), .lst 1 (List.map intE r.cut) false])) ++ List.drop i (List.map rptE l) = (insR l r).map rptE := by
          simp [insR, hf, rptE, dcells]
        refine .inl ⟨[.agg (viewE v), .lst 3 ((insR l r).map rptE) false], _, ⟨.refl, dle_lst hins, trivial⟩, e33b, ?_⟩
        repeat' ((conv => whnf); first | refine And.intro (fun h => h) ?_ | refine dcond_t (by assumption) ?_ | refine dcond_f (by assumption) ?_ | (refine dcond_intro ?_ ?_ <;> intro h) | exact .refl | refine And.intro (by kernel_rfl) ?_ | refine And.intro ⟨fun h => h, fun h => h⟩ ?_ | refine .inl ⟨_, _, DleAll_refl _, e51, ?_⟩ | refine ⟨_, _, DleAll_refl _, fun _ => e51, ?_⟩ | refine ⟨_, _, DleAll_refl _, e51, ?_⟩ | refine .inl ⟨[.lst 3 ((insR l r).map rptE) false], _, ⟨dle_lst hins, trivial⟩, e51b, ?_⟩ | (refine And.intro ?_ ?_; focus (simp; done)) | fail)
        all_goals (conv => whnf)
        · simp only [addR, h0, h, cond_true, cond_false]
          exact .refl
        · simp only [addR, h0, h, cond_true, cond_false]
          exact .refl
end Go.Proofs.Ytmfgjjnmfahcjaa
