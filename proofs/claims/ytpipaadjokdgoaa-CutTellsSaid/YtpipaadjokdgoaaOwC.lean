/- The laws of this seat, part OwC: contracts of the functions, plain laws. No conditions. -/
import Derived.Test.YtpipaadjokdgoaaOwB
set_option linter.unusedSimpArgs false
set_option linter.unusedVariables false
set_option maxRecDepth 100000
namespace Go.Proofs.Ytpipaadjokdgoaa
open Go.Lift
/-! actorgridref7.Counts and Suspects -/
theorem c_ref7_Counts (v : View) (hv : v.mem.length ≤ maxLen) (S : List Alr) (hl : S.length ≤ 500000) : Ret Try.prog 12 [.agg (viewE v), .lst 4 (S.map alE) false] (.lst 3 ((countsR v S).map talE) false) := by
  have e1 := c_ref6_Valid v hv S (by simp only [maxLen]; omega)
  have e2 := c_ref6_Subjects S hl
  have hXl := setI_len (S.map (·.subj))
  rw [List.length_map] at hXl
  have hd : countsR v S = bif !valS v S then [] else (setI (S.map (·.subj))).map (talOf v S) := rfl
  have hlo := fun x h => talOf_lo (v := v) (S := S) (x := x) h
  have hhi := fun x h => talOf_hi (v := v) (S := S) (x := x) h
  have eo := c_ref4_Observers v.mem hv
  have ec := c_ref6_Count S (by omega)
  have eh := c_ref6_Has S (by omega)
  have hol := obs_len v.mem
  have him := imp_succ S
  have hil := imp_le S
  have hi0 : ∀ R x, impAt S R x 0 = 0 := fun R x => by simp [impAt]
  have hib : ∀ R x (r : Nat), impB S R x r = (!hasB S x (r : Nat) && decide (2 ≤ cntI S (R.getD r 0))) := fun R x r => rfl
  have hcl := cntI_le S
  generalize talOf v S = tO at *
  generalize setI (S.map (·.subj)) = X at *
  generalize countsR v S = res at *
  generalize valS v S = vS at *
  refine ret_of_body (fn := Try.f12) (c := Try.f12.body.getD .skip) hm hT (by kernel_rfl) Try.func12 (by kernel_rfl) (by kernel_rfl) (by kernel_rfl) (by kernel_rfl) ?_
  repeat' ((conv => whnf); first | refine And.intro (fun h => h) ?_ | refine dcond_t (by assumption) ?_ | refine dcond_f (by assumption) ?_ | (refine dcond_intro ?_ ?_ <;> intro h) | exact .refl | refine And.intro (by kernel_rfl) ?_ | refine And.intro ⟨fun h => h, fun h => h⟩ ?_ | refine .inl ⟨_, _, DleAll_refl _, e1, ?_⟩ | refine ⟨_, _, DleAll_refl _, fun _ => e1, ?_⟩ | refine ⟨_, _, DleAll_refl _, e1, ?_⟩ | refine .inl ⟨_, _, DleAll_refl _, e2, ?_⟩ | refine ⟨_, _, DleAll_refl _, fun _ => e2, ?_⟩ | refine ⟨_, _, DleAll_refl _, e2, ?_⟩ | (refine And.intro ?_ ?_; focus (simp; done)) | fail)
  all_goals (conv => whnf)
  · rw [hd, h]
    exact .nl
  · rw [h, cond_false] at hd
    clear h
    subst hd
    refine ⟨Nat, fun i => ⟨[(1, .lst 4 (S.map alE) false), (2, .lp 0 0), (5, .own 1), (6, .lst 1 (X.map intE) false), (7, i64 i)], [.cells 24 (viewE v), .row 31 3 (((X.take i).map tO).map talE)]⟩, fun i => i ≤ X.length, fun i => X.length - i, [.slot 5 31 3], ⟨0, Nat.zero_le _, ?_⟩, ?_⟩
    · conv => whnf
      exact ⟨⟨.refl, .refl, .refl, .refl, .refl, trivial⟩, ⟨.refl, .refl, trivial⟩, by rfl⟩
    · intro i hi
      repeat' ((conv => whnf); first | refine And.intro (fun h => h) ?_ | refine dcond_t (by assumption) ?_ | refine dcond_f (by assumption) ?_ | (refine dcond_intro ?_ ?_ <;> intro h) | exact .refl | refine And.intro (by kernel_rfl) ?_ | refine And.intro ⟨fun h => h, fun h => h⟩ ?_ | (refine And.intro ?_ ?_; focus (simp; done)) | fail)
      · have hlt : i < X.length := by simpa using h
        clear h
        have ecx := ec X[i]
        have eox := eo X[i]
        have hlo := hlo X[i]
        have hhi := hhi X[i]
        have hol := hol X[i]
        have hcl := hcl X[i]
        have hix : (X.map intE)[i]? = some (intE X[i]) := by simp [hlt]
        generalize obsR v.mem X[i] = O at *
        generalize hcn : cntI S X[i] = cn at *
        repeat' ((conv => whnf); first | refine And.intro (fun h => h) ?_ | refine dcond_t (by assumption) ?_ | refine dcond_f (by assumption) ?_ | (refine dcond_intro ?_ ?_ <;> intro h) | exact .refl | refine And.intro (by kernel_rfl) ?_ | refine And.intro ⟨fun h => h, fun h => h⟩ ?_ | refine ⟨_, _, And.intro ⟨rfl, get_map hlt⟩ ?_⟩ | refine .inl ⟨_, _, DleAll_refl _, ecx, ?_⟩ | refine ⟨_, _, DleAll_refl _, fun _ => ecx, ?_⟩ | refine ⟨_, _, DleAll_refl _, ecx, ?_⟩ | refine .inl ⟨_, _, DleAll_refl _, eox, ?_⟩ | refine ⟨_, _, DleAll_refl _, fun _ => eox, ?_⟩ | refine ⟨_, _, DleAll_refl _, eox, ?_⟩ | (refine And.intro ?_ ?_; focus (simp; done)) | fail)
        all_goals (conv => whnf)
        refine ⟨Nat, fun r => ⟨[(1, .lst 4 (S.map alE) false), (2, .lp 0 0), (5, .own 1), (6, .lst 1 (X.map intE) false), (7, i64 i), (8, .lp 2 0), (9, .lst 1 (O.map intE) false), (10, i64 r)], [.cells 24 (viewE v), .row 31 3 (((X.take i).map tO).map talE), .cells 31 [i64 X[i], i64 cn, i64 (impAt S O X[i] r : Nat)]]⟩, fun r => r ≤ O.length ∧ (¬ 2 ≤ cn → r = 0), fun r => O.length - r, [], ⟨0, ⟨Nat.zero_le _, fun _ => rfl⟩, ?_⟩, ?_⟩
        · conv => whnf
          refine ⟨⟨.refl, .refl, .refl, .refl, .refl, .refl, .refl, .refl, trivial⟩, ⟨.refl, .refl, ?_, trivial⟩, by rfl⟩
          rw [hi0]
          exact .refl
        · intro r ⟨hr, hr0⟩
          have hrl2 := hil O X[i] r
          repeat' ((conv => whnf); first | refine And.intro (fun h => h) ?_ | refine dcond_t (by assumption) ?_ | refine dcond_f (by assumption) ?_ | (refine dcond_intro ?_ ?_ <;> intro h) | exact .refl | refine And.intro (by kernel_rfl) ?_ | refine And.intro ⟨fun h => h, fun h => h⟩ ?_ | (refine And.intro ?_ ?_; focus (simp; done)) | fail)
          · have hh := h
            rw [Bool.and_eq_true, decide_eq_true_eq, decide_eq_true_eq, List.length_map] at hh
            have hrl : r < O.length := by omega
            have hc2 : 2 ≤ cn := by omega
            clear h hh
            have hgo : O.getD r 0 = O[r] := by simp [hrl]
            have ecr := ec O[r]
            have ehr := eh X[i] r
            have hs := him O X[i] r
            rw [hib, hgo] at hs
            generalize hasB S X[i] (r : Nat) = hb at *
            generalize cntI S O[r] = cr at *
            have hgr : (O.map intE)[r]? = some (intE O[r]) := by simp [hrl]
            repeat' ((conv => whnf); first | refine And.intro (fun h => h) ?_ | refine dcond_t (by assumption) ?_ | refine dcond_f (by assumption) ?_ | (refine dcond_intro ?_ ?_ <;> intro h) | exact .refl | refine And.intro (by kernel_rfl) ?_ | refine And.intro ⟨fun h => h, fun h => h⟩ ?_ | refine ⟨_, _, And.intro ⟨rfl, get_map hlt⟩ ?_⟩ | refine .inl ⟨_, _, DleAll_refl _, ehr, ?_⟩ | refine ⟨_, _, DleAll_refl _, fun _ => ehr, ?_⟩ | refine ⟨_, _, DleAll_refl _, ehr, ?_⟩ | refine .inl ⟨_, _, DleAll_refl _, ecr, ?_⟩ | refine ⟨_, _, DleAll_refl _, fun _ => ecr, ?_⟩ | refine ⟨_, _, DleAll_refl _, ecr, ?_⟩ | refine ⟨r, intE (O[r]'hrl), And.intro ⟨⟨fun h => h, fun h => h⟩, fun _ => ⟨rfl, hgr⟩⟩ ?_⟩ | refine ⟨r, intE (O[r]'hrl), And.intro ⟨fun h => h, fun _ => ⟨rfl, hgr⟩⟩ ?_⟩ | (refine And.intro ?_ ?_; focus (simp; done)) | fail)
            all_goals (conv => whnf)
            · have hcond : (!hb && decide (2 ≤ cr)) = true := by
                rw [Bool.and_eq_true] at h ⊢
                exact ⟨h.1, decide_eq_true (by have := of_decide_eq_true h.2; omega)⟩
              rw [hcond, if_pos rfl] at hs
              refine ⟨r + 1, ⟨hrl, fun h => absurd hc2 h⟩, by simp only []; omega, ?_⟩
              conv => whnf
              refine ⟨⟨.refl, .refl, .refl, .refl, .refl, .refl, .refl, dle_int (wrap_succ (by omega)), trivial⟩, ⟨.refl, .refl, ?_, trivial⟩, by rfl⟩
              rw [hs, ← wrap_succ (i := impAt S O X[i] r) (by omega)]
              exact .refl
            · have hcond : (!hb && decide (2 ≤ cr)) = false := by
                rw [Bool.and_eq_false_iff] at h ⊢
                rcases h with h | h
                · exact .inl h
                · exact .inr (decide_eq_false (by have := of_decide_eq_false h; omega))
              rw [hcond, if_neg (by simp), Nat.add_zero] at hs
              refine ⟨r + 1, ⟨hrl, fun h => absurd hc2 h⟩, by simp only []; omega, ?_⟩
              conv => whnf
              refine ⟨⟨.refl, .refl, .refl, .refl, .refl, .refl, .refl, dle_int (wrap_succ (by omega)), trivial⟩, ⟨.refl, .refl, ?_, trivial⟩, by rfl⟩
              rw [hs]
              exact .refl
          · have htal : tO X[i] = ⟨X[i], cn, impAt S O X[i] r⟩ := by
              by_cases hc2 : 2 ≤ cn
              · have hre : r = O.length := by
                  rw [Bool.and_eq_false_iff, decide_eq_false_iff_not, decide_eq_false_iff_not, List.length_map] at h
                  omega
                rw [hhi hc2, hre]
              · rw [hlo hc2, hr0 hc2, hi0]
            clear h
            repeat' ((conv => whnf); first | refine And.intro (fun h => h) ?_ | refine dcond_t (by assumption) ?_ | refine dcond_f (by assumption) ?_ | (refine dcond_intro ?_ ?_ <;> intro h) | exact .refl | refine And.intro (by kernel_rfl) ?_ | refine And.intro ⟨fun h => h, fun h => h⟩ ?_ | refine And.intro (fitsT (by simp <;> omega)) ?_ | (refine And.intro ?_ ?_; focus (simp; done)) | fail)
            all_goals (conv => whnf)
            refine ⟨i + 1, hlt, by simp only []; omega, ?_⟩
            conv => whnf
            refine ⟨⟨.refl, .refl, .refl, .refl, dle_int (wrap_succ (by omega)), trivial⟩, ⟨.refl, ole_row ?_, trivial⟩, by rfl⟩
            rw [List.take_succ_eq_append_getElem hlt, List.map_append, List.map_append, List.map_singleton, List.map_singleton, htal]
            rfl
      · have : i = X.length := by
          simp at h
          omega
        subst this
        rw [List.take_length]
        repeat' ((conv => whnf); first | refine And.intro (fun h => h) ?_ | refine dcond_t (by assumption) ?_ | refine dcond_f (by assumption) ?_ | (refine dcond_intro ?_ ?_ <;> intro h) | exact .refl | refine And.intro (by kernel_rfl) ?_ | refine And.intro ⟨fun h => h, fun h => h⟩ ?_ | (refine And.intro ?_ ?_; focus (simp; done)) | fail)
theorem c_ref7_Suspects (v : View) (hv : v.mem.length ≤ maxLen) (S : List Alr) (hl : S.length ≤ 500000) (b : Bool) : Ret Try.prog 17 [.agg (viewE v), .lst 4 (S.map alE) false, .v (.bool b)] (.lst 1 ((susR v S b).map intE) false) := by
  have e1 := c_ref7_Counts v hv S hl
  obtain ⟨hb1, hb2⟩ := cnt_bnd v S
  unfold susR
  generalize countsR v S = T at *
  have hfI : ∀ n, n ≤ 2000000 → fitsIn tt 3 n := fun n h => by
    have e : (tinfo tt 3).bytes = 8 := by kernel_rfl
    refine ⟨?_, ?_⟩
    · rw [e]; omega
    · simp only [maxLen]; omega
  refine ret_of_body (fn := Try.f17) (c := Try.f17.body.getD .skip) hm hT (by kernel_rfl) Try.func17 (by kernel_rfl) (by kernel_rfl) (by kernel_rfl) (by kernel_rfl) ?_
  repeat' ((conv => whnf); first | refine And.intro (fun h => h) ?_ | refine dcond_t (by assumption) ?_ | refine dcond_f (by assumption) ?_ | (refine dcond_intro ?_ ?_ <;> intro h) | exact .refl | refine And.intro (by kernel_rfl) ?_ | refine And.intro ⟨fun h => h, fun h => h⟩ ?_ | refine .inl ⟨_, _, DleAll_refl _, e1, ?_⟩ | refine ⟨_, _, DleAll_refl _, fun _ => e1, ?_⟩ | refine ⟨_, _, DleAll_refl _, e1, ?_⟩ | (refine And.intro ?_ ?_; focus (simp; done)) | fail)
  all_goals (conv => whnf)
  refine ⟨Nat, fun i => ⟨[(2, .v (.bool b)), (7, .own 1), (8, .lst 3 (T.map talE) false), (9, i64 i)], [.cells 24 (viewE v), .row 3 1 ((((T.take i).filter (susB b)).map (·.subj)).map intE)]⟩, fun i => i ≤ T.length, fun i => T.length - i, [.slot 7 3 1], ⟨0, Nat.zero_le _, ?_⟩, ?_⟩
  · conv => whnf
    exact ⟨⟨.refl, .refl, .refl, .refl, trivial⟩, ⟨.refl, .refl, trivial⟩, by rfl⟩
  · intro i hi
    repeat' ((conv => whnf); first | refine And.intro (fun h => h) ?_ | refine dcond_t (by assumption) ?_ | refine dcond_f (by assumption) ?_ | (refine dcond_intro ?_ ?_ <;> intro h) | exact .refl | refine And.intro (by kernel_rfl) ?_ | refine And.intro ⟨fun h => h, fun h => h⟩ ?_ | (refine And.intro ?_ ?_; focus (simp; done)) | fail)
    · have hlt : i < T.length := by simpa using h
      clear h
      obtain ⟨hx1, hx2⟩ := hb2 T[i] (List.getElem_mem hlt)
      have hflt : ((T.take i).filter (susB b)).length ≤ i := Nat.le_trans (List.length_filter_le ..) (by simp; omega)
      have hs : ((T.take (i + 1)).filter (susB b)).map (·.subj) = ((T.take i).filter (susB b)).map (·.subj) ++ bif susB b T[i] then [T[i].subj] else [] := by
        rw [List.take_succ_eq_append_getElem hlt, List.filter_append, List.map_append]
        cases hb : susB b T[i] <;> simp [hb]
      have hbe : susB b T[i] = (decide (T[i].exp ≥ (2 : Int)) && decide ((decide (IntKind.i64.wrap ((T[i].exp : Int) + (T[i].imp : Int)) ≥ 4)) = b)) := by
        rw [wrap_i64 (by omega) (by omega)]
        unfold susB
        have h1 : decide (2 ≤ T[i].exp) = decide (((T[i].exp : Nat) : Int) ≥ (2 : Int)) := by
          by_cases h : 2 ≤ T[i].exp
          · rw [decide_eq_true h, decide_eq_true (by omega)]
          · rw [decide_eq_false h, decide_eq_false (by omega)]
        have h2 : decide (4 ≤ T[i].exp + T[i].imp) = decide (((T[i].exp : Nat) : Int) + ((T[i].imp : Nat) : Int) ≥ 4) := by
          by_cases h : 4 ≤ T[i].exp + T[i].imp
          · rw [decide_eq_true h, decide_eq_true (by omega)]
          · rw [decide_eq_false h, decide_eq_false (by omega)]
        rw [h1, h2]
        congr 1
      have hlN : (((T.take i).filter (susB b)).map (·.subj)).length ≤ i := by rw [List.length_map]; exact hflt
      generalize ((T.take i).filter (susB b)).map (·.subj) = N0 at *
      generalize susB b T[i] = sb at *
      repeat' ((conv => whnf); first | refine And.intro (fun h => h) ?_ | refine dcond_t (by assumption) ?_ | refine dcond_f (by assumption) ?_ | (refine dcond_intro ?_ ?_ <;> intro h) | exact .refl | refine And.intro (by kernel_rfl) ?_ | refine And.intro ⟨fun h => h, fun h => h⟩ ?_ | refine ⟨_, _, And.intro ⟨rfl, get_map hlt⟩ ?_⟩ | refine ⟨i, talE (T[i]'hlt), And.intro ⟨⟨fun h => h, fun h => h⟩, fun _ => ⟨rfl, get_map hlt⟩⟩ ?_⟩ | refine And.intro (hfI _ (by simp <;> omega)) ?_ | (refine And.intro ?_ ?_; focus (simp; done)) | fail)
      all_goals (conv => whnf)
      all_goals refine ⟨i + 1, hlt, by simp only []; omega, ?_⟩
      all_goals (conv => whnf)
      all_goals refine ⟨⟨.refl, .refl, .refl, dle_int (wrap_succ (by omega)), trivial⟩, ⟨.refl, ole_row ?_, trivial⟩, by rfl⟩
      · rw [hs, hbe.trans h, cond_true, List.map_append]
        rfl
      · rw [hs, hbe.trans h, cond_false, List.append_nil]
    · have : i = T.length := by
        simp at h
        omega
      subst this
      rw [List.take_length]
      repeat' ((conv => whnf); first | refine And.intro (fun h => h) ?_ | refine dcond_t (by assumption) ?_ | refine dcond_f (by assumption) ?_ | (refine dcond_intro ?_ ?_ <;> intro h) | exact .refl | refine And.intro (by kernel_rfl) ?_ | refine And.intro ⟨fun h => h, fun h => h⟩ ?_ | (refine And.intro ?_ ?_; focus (simp; done)) | fail)
end Go.Proofs.Ytpipaadjokdgoaa

set_option linter.unusedSimpArgs false
set_option linter.unusedVariables false
set_option maxRecDepth 100000
namespace Go.Proofs.Ytpipaadjokdgoaa
open Go.Lift
/-! actorgridref7.Propose -/
theorem come_eq {v : View} {l : List Int} (h : (nextR v l).2 = 5) : comeL v l = l.filter fun x => !inB v.mem x := by
  unfold comeL splitR
  cases hg : (!viewB v || !idsB l 32)
  · rfl
  · unfold nextR at h
    rw [hg] at h
    simp at h
def lastR (ms l : List Int) : Nat → Int
  | 0 => -1
  | i + 1 => if inB ms (l.getD i 0) = true then lastR ms l i else i
theorem last_ok {ms l : List Int} : ∀ i, i ≤ l.length → (lastR ms l i = -1 ∧ (l.take i).filter (fun x => !inB ms x) = []) ∨ ∃ k : Nat, k < i ∧ lastR ms l i = k ∧ 0 < ((l.take i).filter (fun x => !inB ms x)).length ∧ ((l.take i).filter (fun x => !inB ms x)).getD (((l.take i).filter (fun x => !inB ms x)).length - 1) 0 = l.getD k 0
  | 0, _ => .inl (by simp [lastR])
  | i + 1, h => by
    have hi : i < l.length := by omega
    have hg : l.getD i 0 = l[i] := by simp [hi]
    have ih := last_ok (ms := ms) (l := l) i (by omega)
    have hf : (l.take (i + 1)).filter (fun x => !inB ms x) = (l.take i).filter (fun x => !inB ms x) ++ bif !inB ms l[i] then [l[i]] else [] := by
      rw [List.take_succ_eq_append_getElem hi, List.filter_append]
      cases hb : inB ms l[i] <;> simp [hb]
    rw [hf, lastR, hg]
    generalize (l.take i).filter (fun x => !inB ms x) = F at *
    cases hb : inB ms l[i]
    · rw [if_neg (by simp)]
      refine .inr ⟨i, by omega, rfl, by simp, ?_⟩
      rw [hg]
      simp
    · rw [if_pos rfl]
      simp only [Bool.not_true, cond_false, List.append_nil]
      rcases ih with ih | ⟨k, h1, h2⟩
      · exact .inl ih
      · exact .inr ⟨k, by omega, h2⟩
theorem place_nodup {l : List Int} (hn : l.Pairwise fun x y => x < y) {k : Nat} (hk : k < l.length) : placeB l (l.getD k 0) = k := by
  have hg : l.getD k 0 = l[k] := by simp [hk]
  rw [hg]
  obtain ⟨k', hk', h1, h2⟩ := place_val (List.getElem_mem hk)
  rw [h1]
  have : k' = k := by
    rcases Nat.lt_trichotomy k' k with h | h | h
    · have := List.pairwise_iff_getElem.1 hn k' k hk' hk h
      omega
    · exact h
    · have := List.pairwise_iff_getElem.1 hn k k' hk hk' h
      omega
  rw [this]
theorem c_ref7_Propose (v : View) (hv : v.mem.length ≤ 500000) (S : List Alr) (hl : S.length ≤ 500000) : Ret Try.prog 14 [.agg (viewE v), .lst 4 (S.map alE) false] (.tup [.lst 1 ((proposeR v S).1.map intE) false, .v (.bool (proposeR v S).2)]) := by
  have hv' : v.mem.length ≤ maxLen := by simp only [maxLen]; omega
  have e1 := c_ref7_Suspects v hv' S hl false
  have e2 := c_ref7_Suspects v hv' S hl true
  have hll := sus_len v S true
  have hLp := sus_up v S true
  have hd : proposeR v S = bif decide (0 < ((susR v S false).length : Int)) then ([], false) else propF v ((susR v S true).length + 1) (susR v S true) := rfl
  generalize proposeR v S = res at *
  generalize susR v S false = U at *
  generalize susR v S true = L at *
  refine ret_of_body (fn := Try.f14) (c := Try.f14.body.getD .skip) hm hT (by kernel_rfl) Try.func14 (by kernel_rfl) (by kernel_rfl) (by kernel_rfl) (by kernel_rfl) ?_
  repeat' ((conv => whnf); first | refine And.intro (fun h => h) ?_ | refine dcond_t (by assumption) ?_ | refine dcond_f (by assumption) ?_ | (refine dcond_intro ?_ ?_ <;> intro h) | exact .refl | refine And.intro (by kernel_rfl) ?_ | refine And.intro ⟨fun h => h, fun h => h⟩ ?_ | refine .inl ⟨_, _, DleAll_refl _, e1, ?_⟩ | refine ⟨_, _, DleAll_refl _, fun _ => e1, ?_⟩ | refine ⟨_, _, DleAll_refl _, e1, ?_⟩ | refine .inl ⟨_, _, DleAll_refl _, e2, ?_⟩ | refine ⟨_, _, DleAll_refl _, fun _ => e2, ?_⟩ | refine ⟨_, _, DleAll_refl _, e2, ?_⟩ | (refine And.intro ?_ ?_; focus (simp; done)) | fail)
  all_goals (conv => whnf)
  · rw [List.length_map, List.length_map] at h
    have hres : res = ([], false) := by
      rw [hd]
      cases hu : decide (0 < (U.length : Int))
      · rw [Bool.or_eq_true] at h
        rcases h with h | h
        · have hL : L = [] := List.length_eq_zero_iff.1 (by have := of_decide_eq_true h; omega)
          rw [cond_false, hL]
          exact prop_nil v
        · rw [show decide ((U.length : Int) > 0) = decide (0 < (U.length : Int)) from rfl, hu] at h
          cases h
      · rfl
    rw [hres]
    exact dle_tupA ⟨.nl, .refl, trivial⟩
  · rw [List.length_map, List.length_map, Bool.or_eq_false_iff] at h
    have hu : decide (0 < (U.length : Int)) = false := h.2
    rw [hu, cond_false] at hd
    clear h hu
    subst hd
    refine ⟨List Int, fun l => ⟨[(2, .lp 0 0), (6, .lst 1 (l.map intE) false)], [.cells 24 (viewE v)]⟩, fun l => l.length ≤ L.length ∧ l.Pairwise (fun x y => x < y) ∧ propF v (l.length + 1) l = propF v (L.length + 1) L, fun l => l.length, [.shut 6], ⟨L, ⟨Nat.le_refl _, hLp, rfl⟩, ?_⟩, ?_⟩
    · conv => whnf
      exact ⟨⟨.refl, .refl, trivial⟩, ⟨.refl, trivial⟩, by rfl⟩
    · intro l ⟨hlen, hpw, hinv⟩
      have en := c_ref3_Next v hv l (by omega)
      have hne := nextRR_err v l
      rw [prop_eq] at hinv
      have hce := come_eq (v := v) (l := l)
      have hcl := come_last (v := v) (l := l)
      generalize comeL v l = J at *
      generalize hN : nextR v l = N at *
      obtain ⟨N1, N2⟩ := N
      generalize nextRR v l = M at *
      obtain ⟨M1, M2⟩ := M
      simp only [] at en hinv hne hce
      subst hne
      generalize propF v (L.length + 1) L = res at *
      repeat' ((conv => whnf); first | refine And.intro (fun h => h) ?_ | refine dcond_t (by assumption) ?_ | refine dcond_f (by assumption) ?_ | (refine dcond_intro ?_ ?_ <;> intro h) | exact .refl | refine And.intro (by kernel_rfl) ?_ | refine And.intro ⟨fun h => h, fun h => h⟩ ?_ | refine .inl ⟨_, _, DleAll_refl _, en, ?_⟩ | refine ⟨_, _, DleAll_refl _, fun _ => en, ?_⟩ | refine ⟨_, _, DleAll_refl _, en, ?_⟩ | (refine And.intro ?_ ?_; focus (simp; done)) | fail)
      all_goals (conv => whnf)
      · rw [h, cond_true] at hinv
        rw [← hinv]
        exact .refl
      · rw [h, cond_false] at hinv
        clear h
        refine ⟨Nat, fun i => ⟨[(2, .lp 0 0), (6, .lst 1 (l.map intE) false), (8, .v (.int .i64 M2)), (9, i64 (lastR v.mem l i)), (10, i64 i)], [.cells 24 (viewE v)]⟩, fun i => i ≤ l.length, fun i => l.length - i, [], ⟨0, Nat.zero_le _, ?_⟩, ?_⟩
        · conv => whnf
          exact ⟨⟨.refl, .refl, .refl, .refl, .refl, trivial⟩, ⟨.refl, trivial⟩, by rfl⟩
        · intro i hi
          repeat' ((conv => whnf); first | refine And.intro (fun h => h) ?_ | refine dcond_t (by assumption) ?_ | refine dcond_f (by assumption) ?_ | (refine dcond_intro ?_ ?_ <;> intro h) | exact .refl | refine And.intro (by kernel_rfl) ?_ | refine And.intro ⟨fun h => h, fun h => h⟩ ?_ | (refine And.intro ?_ ?_; focus (simp; done)) | fail)
          · have hlt : i < l.length := by simpa using h
            clear h
            have ec := c_ref3_Contains v.mem hv' l[i]
            have hg : l.getD i 0 = l[i] := by simp [hlt]
            have hs : lastR v.mem l (i + 1) = if inB v.mem l[i] = true then lastR v.mem l i else i := by rw [lastR, hg]
            repeat' ((conv => whnf); first | refine And.intro (fun h => h) ?_ | refine dcond_t (by assumption) ?_ | refine dcond_f (by assumption) ?_ | (refine dcond_intro ?_ ?_ <;> intro h) | exact .refl | refine And.intro (by kernel_rfl) ?_ | refine And.intro ⟨fun h => h, fun h => h⟩ ?_ | refine ⟨_, _, And.intro ⟨rfl, get_map hlt⟩ ?_⟩ | refine .inl ⟨_, _, DleAll_refl _, ec, ?_⟩ | refine ⟨_, _, DleAll_refl _, fun _ => ec, ?_⟩ | refine ⟨_, _, DleAll_refl _, ec, ?_⟩ | (refine And.intro ?_ ?_; focus (simp; done)) | fail)
            all_goals (conv => whnf)
            · rw [if_neg (by simpa using h)] at hs
              refine ⟨i + 1, hlt, by simp only []; omega, ?_⟩
              conv => whnf
              exact ⟨⟨.refl, .refl, .refl, dle_int hs.symm, dle_int (wrap_succ (by omega)), trivial⟩, ⟨.refl, trivial⟩, by rfl⟩
            · rw [if_pos (by simpa using h)] at hs
              refine ⟨i + 1, hlt, by simp only []; omega, ?_⟩
              conv => whnf
              exact ⟨⟨.refl, .refl, .refl, dle_int hs.symm, dle_int (wrap_succ (by omega)), trivial⟩, ⟨.refl, trivial⟩, by rfl⟩
          · have : i = l.length := by
              simp at *
              omega
            subst this
            have hok := last_ok (ms := v.mem) (l := l) l.length (Nat.le_refl _)
            rw [List.take_length] at hok
            have hres : res = ([], false) := by
              rw [← hinv]
              cases h5 : decide (M2 = 5)
              · rfl
              · have hM := of_decide_eq_true h5
                rw [h5, Bool.not_true, Bool.false_or] at h
                have hneg := of_decide_eq_true h
                rcases hok with ⟨_, h2⟩ | ⟨k, _, h2, _⟩
                · have hJ : J.length = 0 := by rw [hce hM, h2]; rfl
                  rw [hJ]
                  rfl
                · rw [h2] at hneg
                  omega
            rw [hres]
            exact dle_tupA ⟨.nl, .refl, trivial⟩
          · have hi2 : i = l.length := by
              rename_i h0
              simp at h0
              omega
            subst hi2
            have hok := last_ok (ms := v.mem) (l := l) l.length (Nat.le_refl _)
            rw [List.take_length] at hok
            rw [Bool.or_eq_false_iff, Bool.not_eq_false'] at h
            have hM := of_decide_eq_true h.1
            have hneg := of_decide_eq_false h.2
            rcases hok with ⟨h2, _⟩ | ⟨k, hk, hlk, hF0, hFk⟩
            · exfalso
              rw [h2] at hneg
              omega
            · rw [← hce hM] at hF0 hFk
              rw [hM, hFk, place_nodup hpw hk, Int.toNat_natCast, decide_eq_false (show ¬ ((J.length : Int) = 0) by omega)] at hinv
              simp only [decide_true, Bool.not_true, Bool.or_self, cond_false] at hinv
              clear h hneg hce hcl hF0 hFk
              have hk1 : IntKind.i64.wrap ((k : Int) + 1) = ((k + 1 : Nat) : Int) := by
                rw [wrap_i64 (by omega) (by omega)]
                omega
              have hkl : k + 1 ≤ (l.map intE).length := by
                rw [List.length_map]
                omega
              have hkl' : k ≤ (l.map intE).length := by omega
              have hfI : ∀ n, n ≤ 2000000 → fitsIn tt 3 n := fun n h => by
                have e : (tinfo tt 3).bytes = 8 := by kernel_rfl
                refine ⟨?_, ?_⟩
                · rw [e]; omega
                · simp only [maxLen]; omega
              rw [hlk]
              repeat' ((conv => whnf); first | refine And.intro (fun h => h) ?_ | refine dcond_t (by assumption) ?_ | refine dcond_f (by assumption) ?_ | (refine dcond_intro ?_ ?_ <;> intro h) | exact .refl | refine And.intro (by kernel_rfl) ?_ | refine And.intro ⟨fun h => h, fun h => h⟩ ?_ | refine ⟨0, k, And.intro ⟨rfl, ⟨_, rfl⟩, Nat.zero_le _, hkl'⟩ ?_⟩ | refine ⟨k + 1, And.intro ⟨⟨_, congrArg (fun x => DV.v (Value.int .i64 x)) hk1⟩, hkl⟩ ?_⟩ | refine And.intro (hfI _ (by simp <;> omega)) ?_ | (refine And.intro ?_ ?_; focus (simp; done)) | fail)
              all_goals (conv => whnf)
              have hl1 : (l.take k ++ l.drop (k + 1)).length + 1 = l.length := by
                simp
                omega
              refine ⟨l.take k ++ l.drop (k + 1), ⟨by omega, ?_, by rw [hl1]; exact hinv⟩, by simp only []; omega, ?_⟩
              · have hsub : (l.take k ++ l.drop (k + 1)).Sublist l := by
                  have h1 := List.take_append_drop k l
                  conv => rhs; rw [← h1]
                  refine List.Sublist.append (List.Sublist.refl _) ?_
                  rw [← List.drop_drop (i := 1) (j := k)]
                  exact List.drop_sublist _ _
                exact hpw.sublist hsub
              · conv => whnf
                refine ⟨⟨.refl, dle_lst ?_, trivial⟩, ⟨.refl, trivial⟩, by rfl⟩
                rw [List.map_append, List.map_take, List.map_drop]
                rfl
end Go.Proofs.Ytpipaadjokdgoaa

set_option linter.unusedSimpArgs false
set_option linter.unusedVariables false
set_option maxRecDepth 100000
namespace Go.Proofs.Ytpipaadjokdgoaa
open Go.Lift
/-! CutTells -/
theorem dat_alrs {n : Nat} {r : List DV} (h : Dat tt (n + 3) 25 r) : ∃ l : List Alr, r = [.lst 4 (l.map alE) false] ∧ l.length ≤ maxLen := by
  obtain ⟨es, rfl, hl, hes⟩ := h
  obtain ⟨d, rfl, _⟩ := list_data (f := alE) (Q := fun _ => True) (fun r hr => by
    obtain ⟨_, _, rfl, ⟨a, rfl, _⟩, _, _, rfl, ⟨b, rfl, _⟩, _, _, rfl, ⟨c, rfl, _⟩, _, _, rfl, ⟨e, rfl, _⟩, rfl⟩ := hes r hr
    exact ⟨⟨a, b, c, e⟩, rfl, trivial⟩)
  exact ⟨d, rfl, by simpa using hl⟩
theorem r3 (v : View) (hv : v.mem.length ≤ maxLen) (S : List Alr) (hl : S.length ≤ maxLen) : Ret Try.prog 3 [.agg (viewE v), .lst 4 (S.map alE) false] (.v (.bool true)) := by
  have e0 := c_law6_Small v S
  refine ret_of_body (fn := Try.f3) (c := Try.f3.body.getD .skip) hm hT (by kernel_rfl) Try.func3 (by kernel_rfl) (by kernel_rfl) (by kernel_rfl) (by kernel_rfl) ?_
  repeat' ((conv => whnf); first | refine And.intro (fun h => h) ?_ | refine dcond_t (by assumption) ?_ | refine dcond_f (by assumption) ?_ | (refine dcond_intro ?_ ?_ <;> intro h) | exact .refl | refine And.intro (by kernel_rfl) ?_ | refine And.intro ⟨fun h => h, fun h => h⟩ ?_ | refine .inl ⟨_, _, DleAll_refl _, c_law7_awake, ?_⟩ | refine ⟨_, _, DleAll_refl _, fun _ => c_law7_awake, ?_⟩ | refine ⟨_, _, DleAll_refl _, c_law7_awake, ?_⟩ | refine .inl ⟨_, _, DleAll_refl _, e0, ?_⟩ | refine ⟨_, _, DleAll_refl _, fun _ => e0, ?_⟩ | refine ⟨_, _, DleAll_refl _, e0, ?_⟩ | (refine And.intro ?_ ?_; focus (simp; done)) | fail)
  rw [Bool.not_eq_false', Bool.and_eq_true, decide_eq_true_eq, decide_eq_true_eq] at h
  clear e0
  have hv5 : v.mem.length ≤ 500000 := by omega
  have hS5 : S.length ≤ 150 := by omega
  have e1 := c_cut_Counts v hv S (by omega)
  have e2 := c_ref7_Counts v hv S (by omega)
  have e3 := c_Propose v hv5 S (by omega)
  have e4 := c_ref7_Propose v hv5 S (by omega)
  have e5 := c_Unstable v hv S (by omega)
  have e6 := c_ref7_Suspects v hv S (by omega) false
  have e7 := c_Stable v hv S (by omega)
  have e8 := c_ref7_Suspects v hv S (by omega) true
  have b1 := (cnt_bnd v S).1
  have b2 := propose_len v S
  have b3 := sus_len v S false
  have b4 := sus_len v S true
  clear h
  generalize countsR v S = T at *
  generalize proposeR v S = R at *
  generalize susR v S false = U at *
  generalize susR v S true = W at *
  obtain ⟨R1, R2⟩ := R
  simp only [] at e3 e4 b2
  have s1 := c_law7_same R1 R1 (by simp only [maxLen]; omega) (by simp only [maxLen]; omega)
  have s2 := c_law7_same U U (by simp only [maxLen]; omega) (by simp only [maxLen]; omega)
  have s3 := c_law7_same W W (by simp only [maxLen]; omega) (by simp only [maxLen]; omega)
  rw [sameI_refl] at s1 s2 s3
  obtain ⟨tr, htr⟩ : ∃ b : Bool, b = true := ⟨true, rfl⟩
  rw [← htr] at s1 s2 s3
  repeat' ((conv => whnf); first | refine And.intro (fun h => h) ?_ | refine dcond_t (by assumption) ?_ | refine dcond_f (by assumption) ?_ | (refine dcond_intro ?_ ?_ <;> intro h) | exact .refl | refine And.intro (by kernel_rfl) ?_ | refine And.intro ⟨fun h => h, fun h => h⟩ ?_ | refine .inl ⟨_, _, DleAll_refl _, e1, ?_⟩ | refine ⟨_, _, DleAll_refl _, fun _ => e1, ?_⟩ | refine ⟨_, _, DleAll_refl _, e1, ?_⟩ | refine .inl ⟨_, _, DleAll_refl _, e2, ?_⟩ | refine ⟨_, _, DleAll_refl _, fun _ => e2, ?_⟩ | refine ⟨_, _, DleAll_refl _, e2, ?_⟩ | (refine And.intro ?_ ?_; focus (simp; done)) | fail)
  all_goals (conv => whnf)
  · simp at h
  · clear h
    refine ⟨Nat, fun i => ⟨[(1, .lst 4 (S.map alE) false), (2, .lp 0 0), (5, .lst 3 (T.map talE) false), (6, .lst 3 (T.map talE) false), (7, i64 i)], [.cells 24 (viewE v)]⟩, fun i => i ≤ T.length, fun i => T.length - i, [], ⟨0, Nat.zero_le _, ?_⟩, ?_⟩
    · conv => whnf
      exact ⟨⟨.refl, .refl, .refl, .refl, .refl, trivial⟩, ⟨.refl, trivial⟩, by rfl⟩
    · intro i hi
      repeat' ((conv => whnf); first | refine And.intro (fun h => h) ?_ | refine dcond_t (by assumption) ?_ | refine dcond_f (by assumption) ?_ | (refine dcond_intro ?_ ?_ <;> intro h) | exact .refl | refine And.intro (by kernel_rfl) ?_ | refine And.intro ⟨fun h => h, fun h => h⟩ ?_ | (refine And.intro ?_ ?_; focus (simp; done)) | fail)
      · have hlt : i < T.length := by simpa using h
        clear h
        repeat' ((conv => whnf); first | refine And.intro (fun h => h) ?_ | refine dcond_t (by assumption) ?_ | refine dcond_f (by assumption) ?_ | (refine dcond_intro ?_ ?_ <;> intro h) | exact .refl | refine And.intro (by kernel_rfl) ?_ | refine And.intro ⟨fun h => h, fun h => h⟩ ?_ | refine ⟨_, _, And.intro ⟨rfl, get_map hlt⟩ ?_⟩ | (refine And.intro ?_ ?_; focus (simp; done)) | fail)
        all_goals (conv => whnf)
        · exfalso
          simp at h
        · refine ⟨i + 1, hlt, by simp only []; omega, ?_⟩
          conv => whnf
          exact ⟨⟨.refl, .refl, .refl, .refl, dle_int (wrap_succ (by omega)), trivial⟩, ⟨.refl, trivial⟩, by rfl⟩
      · have : i = T.length := by
          simp at h
          omega
        subst this
        clear h
        repeat' ((conv => whnf); first | refine And.intro (fun h => h) ?_ | refine dcond_t (by assumption) ?_ | refine dcond_f (by assumption) ?_ | (refine dcond_intro ?_ ?_ <;> intro h) | exact .refl | refine And.intro (by kernel_rfl) ?_ | refine And.intro ⟨fun h => h, fun h => h⟩ ?_ | refine .inl ⟨_, _, DleAll_refl _, e3, ?_⟩ | refine ⟨_, _, DleAll_refl _, fun _ => e3, ?_⟩ | refine ⟨_, _, DleAll_refl _, e3, ?_⟩ | refine .inl ⟨_, _, DleAll_refl _, e4, ?_⟩ | refine ⟨_, _, DleAll_refl _, fun _ => e4, ?_⟩ | refine ⟨_, _, DleAll_refl _, e4, ?_⟩ | refine .inl ⟨_, _, DleAll_refl _, e5, ?_⟩ | refine ⟨_, _, DleAll_refl _, fun _ => e5, ?_⟩ | refine ⟨_, _, DleAll_refl _, e5, ?_⟩ | refine .inl ⟨_, _, DleAll_refl _, e6, ?_⟩ | refine ⟨_, _, DleAll_refl _, fun _ => e6, ?_⟩ | refine ⟨_, _, DleAll_refl _, e6, ?_⟩ | refine .inl ⟨_, _, DleAll_refl _, e7, ?_⟩ | refine ⟨_, _, DleAll_refl _, fun _ => e7, ?_⟩ | refine ⟨_, _, DleAll_refl _, e7, ?_⟩ | refine .inl ⟨_, _, DleAll_refl _, e8, ?_⟩ | refine ⟨_, _, DleAll_refl _, fun _ => e8, ?_⟩ | refine ⟨_, _, DleAll_refl _, e8, ?_⟩ | refine .inl ⟨_, _, DleAll_refl _, s1, ?_⟩ | refine ⟨_, _, DleAll_refl _, fun _ => s1, ?_⟩ | refine ⟨_, _, DleAll_refl _, s1, ?_⟩ | refine .inl ⟨_, _, DleAll_refl _, s2, ?_⟩ | refine ⟨_, _, DleAll_refl _, fun _ => s2, ?_⟩ | refine ⟨_, _, DleAll_refl _, s2, ?_⟩ | refine .inl ⟨_, _, DleAll_refl _, s3, ?_⟩ | refine ⟨_, _, DleAll_refl _, fun _ => s3, ?_⟩ | refine ⟨_, _, DleAll_refl _, s3, ?_⟩ | (refine And.intro ?_ ?_; focus (simp; done)) | fail)
        all_goals (conv => whnf)
        refine dle_bool ?_
        simp [htr]
theorem law3 (dvs : List DV) (h : DatAll tt 5 [24, 25] dvs) : Ret Try.prog 3 dvs (.v (.bool true)) := by
  obtain ⟨b, _, rfl, hb, a1, _, rfl, h1, rfl⟩ := h
  obtain ⟨v, rfl, hv⟩ := dat_view (n := 2) hb
  obtain ⟨l1, rfl, c1⟩ := dat_alrs (n := 2) h1
  exact r3 v hv l1 c1
end Go.Proofs.Ytpipaadjokdgoaa
