/- The laws of this seat, part X9: contracts of the functions, plain laws. No conditions. -/
import Derived.Test.YtmfgjjnmfahcjaaW9
set_option linter.unusedSimpArgs false
set_option linter.unusedVariables false
namespace Go.Proofs.Ytmfgjjnmfahcjaa
open Go.Lift
set_option maxRecDepth 100000 in
set_option maxHeartbeats 2000000 in
theorem r7 (v : View) (hv : v.mem.length ≤ maxLen) (l : List Rpt) (hl : l.length ≤ maxLen) (hc : ∀ r ∈ l, r.cut.length ≤ maxLen) (r : Rpt) (hr : r.cut.length ≤ maxLen) (own : List Int) (ho : own.length ≤ maxLen) :
    Ret Try.prog 7 [.agg (viewE v), .lst 3 (l.map rptE) false, .agg (rptE r), .lst 1 (own.map intE) false] (.v (.bool true)) := by
  have e29 := r29 l hl
  have hsm := @small_iff l
  generalize smallB l = sb at e29 hsm
  refine ret_of_body (fn := Try.f7) (c := Try.f7.body.getD .skip) hm hT (by kernel_rfl) Try.func7 (by kernel_rfl) (by kernel_rfl) (by kernel_rfl) (by kernel_rfl) ?_
  repeat' ((conv => whnf); first | refine And.intro (fun h => h) ?_ | refine dcond_t (by assumption) ?_ | refine dcond_f (by assumption) ?_ | (refine dcond_intro ?_ ?_ <;> intro h) | exact .refl | refine And.intro (by kernel_rfl) ?_ | refine And.intro ⟨fun h => h, fun h => h⟩ ?_ | refine .inl ⟨_, _, DleAll_refl _, r9, ?_⟩ | refine ⟨_, _, DleAll_refl _, fun _ => r9, ?_⟩ | refine ⟨_, _, DleAll_refl _, r9, ?_⟩ | refine .inl ⟨_, _, DleAll_refl _, e29, ?_⟩ | refine ⟨_, _, DleAll_refl _, fun _ => e29, ?_⟩ | refine ⟨_, _, DleAll_refl _, e29, ?_⟩ | (refine And.intro ?_ ?_; focus (simp; done)) | fail)
  all_goals (conv => whnf)
  have hs : v.mem.length ≤ 60 ∧ sb = true ∧ r.cut.length ≤ 60 ∧ own.length ≤ 60 := by
    simp only [List.length_map, Bool.or_eq_false_iff, decide_eq_false_iff_not, Bool.not_eq_false'] at h
    obtain ⟨⟨⟨h1, h2⟩, h3⟩, h4⟩ := h
    exact ⟨by omega, h2, by omega, by omega⟩
  clear h
  obtain ⟨h1, h2, h3, h4⟩ := hs
  obtain ⟨h5, h6⟩ := hsm h2
  have e30 := r30 v (by omega) l (by omega) (fun x hx => by have := h6 x hx; omega) r (by omega)
  have e31 := r31 v (by omega) l (by omega) (fun x hx => by have := h6 x hx; omega) r (by omega)
  have e28 := r28 v (by omega) l (by omega) (fun x hx => by have := h6 x hx; omega) own (by omega)
  have e32 := r32 v (by omega) l (by omega) (fun x hx => by have := h6 x hx; omega) own (by omega)
  have e33 := r33 v (by omega) l hl (fun x hx => by have := h6 x hx; omega)
  have e34 := r34 v (by omega) l hl (fun x hx => by have := h6 x hx; omega)
  have hadd : (addR v l r).1.length ≤ 1000 ∧ ∀ x ∈ (addR v l r).1, x.cut.length ≤ 1000 := by
    have hil := insR_len l r
    unfold addR
    cases repsB v l
    · exact ⟨by simp, by simp⟩
    · cases repsB v (insR l r)
      · exact ⟨by simp only [Bool.not_true, Bool.not_false, cond_true, cond_false]; omega, fun x hx => by have := h6 x hx; omega⟩
      · refine ⟨by simp only [Bool.not_true, cond_false]; omega, fun x hx => ?_⟩
        rcases insR_mem hx with rfl | hx
        · omega
        · have := h6 x hx; omega
  have hch : (chooseR v l own).1.length ≤ 1000 := by
    have hb : ∀ b ∈ boxOf l, b.cut.length ≤ 60 := box_cut h6
    have hg : (l.getD (hiAt l l.length) rpt0).cut.length ≤ 60 := by
      rw [List.getD_eq_getElem?_getD]
      rcases hq : l[hiAt l l.length]? with _ | x
      · simp [rpt0]
      · exact h6 x (List.mem_of_getElem? hq)
    unfold chooseR
    cases gateB v l own
    · cases decide (0 < (l.getD (hiAt l l.length) rpt0).rank)
      · simp only [cond_false]
        split
        · rename_i b hf
          have := hb b (List.mem_of_find?_eq_some hf)
          simp only []; omega
        · cases decide ((own.length : Int) = 0)
          · simp only [cond_false]; omega
          · simp
      · simp only [cond_true, cond_false]; omega
    · simp
  rw [add_eq] at e31
  generalize addR v l r = A at e30 e31 hadd
  generalize chooseR v l own = C at e28 e32 hch
  generalize repsB v l = b at e33 e34
  obtain ⟨A, ao⟩ := A
  obtain ⟨C, co⟩ := C
  simp only [] at hadd hch
  have e35 := r35 A (Nat.le_trans hadd.1 (by decide)) (fun x hx => Nat.le_trans (hadd.2 x hx) (by decide))
  have e23 := r23 C C (Nat.le_trans hch (by decide))
  rw [sameI_refl] at e23
  repeat' ((conv => whnf); first | refine And.intro (fun h => h) ?_ | refine dcond_t (by assumption) ?_ | refine dcond_f (by assumption) ?_ | (refine dcond_intro ?_ ?_ <;> intro h) | exact .refl | refine And.intro (by kernel_rfl) ?_ | refine And.intro ⟨fun h => h, fun h => h⟩ ?_ | refine .inl ⟨_, _, DleAll_refl _, e30, ?_⟩ | refine ⟨_, _, DleAll_refl _, fun _ => e30, ?_⟩ | refine ⟨_, _, DleAll_refl _, e30, ?_⟩ | refine .inl ⟨_, _, DleAll_refl _, e31, ?_⟩ | refine ⟨_, _, DleAll_refl _, fun _ => e31, ?_⟩ | refine ⟨_, _, DleAll_refl _, e31, ?_⟩ | refine .inl ⟨_, _, DleAll_refl _, e28, ?_⟩ | refine ⟨_, _, DleAll_refl _, fun _ => e28, ?_⟩ | refine ⟨_, _, DleAll_refl _, e28, ?_⟩ | refine .inl ⟨_, _, DleAll_refl _, e32, ?_⟩ | refine ⟨_, _, DleAll_refl _, fun _ => e32, ?_⟩ | refine ⟨_, _, DleAll_refl _, e32, ?_⟩ | refine .inl ⟨_, _, DleAll_refl _, e33, ?_⟩ | refine ⟨_, _, DleAll_refl _, fun _ => e33, ?_⟩ | refine ⟨_, _, DleAll_refl _, e33, ?_⟩ | refine .inl ⟨_, _, DleAll_refl _, e34, ?_⟩ | refine ⟨_, _, DleAll_refl _, fun _ => e34, ?_⟩ | refine ⟨_, _, DleAll_refl _, e34, ?_⟩ | refine .inl ⟨_, _, DleAll_refl _, e35, ?_⟩ | refine ⟨_, _, DleAll_refl _, fun _ => e35, ?_⟩ | refine ⟨_, _, DleAll_refl _, e35, ?_⟩ | refine .inl ⟨_, _, DleAll_refl _, e23, ?_⟩ | refine ⟨_, _, DleAll_refl _, fun _ => e23, ?_⟩ | refine ⟨_, _, DleAll_refl _, e23, ?_⟩ | (refine And.intro ?_ ?_; focus (simp; done)) | fail)
  all_goals (conv => whnf)
  refine dle_bool ?_
  simp
theorem dat_view {n : Nat} {r : List DV} (h : Dat tt (n + 3) 44 r) : ∃ a : View, r = viewE a ∧ a.mem.length ≤ maxLen := by
  obtain ⟨p, q, rfl, ⟨np, rfl, _⟩, l, s, rfl, hl, rfl⟩ := h
  obtain ⟨l, rfl, hll⟩ := dat_ints (n := n) hl
  exact ⟨⟨np, l⟩, rfl, hll⟩
theorem dat_rpt {n : Nat} {r : List DV} (h : Dat tt (n + 3) 32 r) : ∃ a : Rpt, r = rptE a ∧ a.cut.length ≤ maxLen := by
  obtain ⟨p, q, rfl, ⟨np, rfl, _⟩, p2, q2, rfl, ⟨nr, rfl, _⟩, l, s, rfl, hl, rfl⟩ := h
  obtain ⟨l, rfl, hll⟩ := dat_ints (n := n) hl
  exact ⟨⟨np, nr, l⟩, rfl, hll⟩
theorem dat_rpts {n : Nat} {r : List DV} (h : Dat tt (n + 4) 48 r) : ∃ l : List Rpt, r = [.lst 3 (l.map rptE) false] ∧ l.length ≤ maxLen ∧ ∀ x ∈ l, x.cut.length ≤ maxLen := by
  obtain ⟨es, rfl, hl, hes⟩ := h
  obtain ⟨d, rfl, hd⟩ := list_data (f := rptE) (Q := fun x => x.cut.length ≤ maxLen) (fun r hr => by
    obtain ⟨a, rfl, hh⟩ := dat_rpt (n := n) (hes r hr)
    exact ⟨a, rfl, hh⟩)
  exact ⟨d, rfl, by simpa using hl, hd⟩
theorem law7 (dvs : List DV) (h : DatAll tt 6 [44, 48, 32, 26] dvs) : Ret Try.prog 7 dvs (.v (.bool true)) := by
  obtain ⟨a, _, rfl, ha, b, _, rfl, hb, c, _, rfl, hc, d, _, rfl, hd, rfl⟩ := h
  obtain ⟨a, rfl, hal⟩ := dat_view (n := 3) ha
  obtain ⟨b, rfl, hbl, hbc⟩ := dat_rpts (n := 2) hb
  obtain ⟨c, rfl, hcl⟩ := dat_rpt (n := 3) hc
  obtain ⟨d, rfl, hdl⟩ := dat_ints (n := 4) hd
  exact r7 a hal b hbl hbc c hcl d hdl
end Go.Proofs.Ytmfgjjnmfahcjaa
