/- The laws of this seat, part P9: contracts of the functions, plain laws. No conditions. -/
import Derived.Test.YtmfgjjnmfahcjaaO9
set_option linter.unusedSimpArgs false
set_option linter.unusedVariables false
namespace Go.Proofs.Ytmfgjjnmfahcjaa
open Go.Lift
structure GS where
  i : Nat
  a : Acc
  votes : Int
def gEnc (l which : List Nat) (s : GS) : DS := ⟨[(0, .lst 1 (l.map byteI) false), (1, .lst 1 (which.map byteI) false), (5, .lp 0 0), (6, i64 s.votes), (7, i64 s.i)], [.cells 28 (accE s.a)]⟩
theorem bad_ok {a b : Acc} {ok : Bool} (h : badB a b ok = false) : accB b = true ∧ a.rank ≤ b.rank := by
  simp only [badB, Bool.or_eq_false_iff, Bool.not_eq_false', decide_eq_false_iff_not] at h
  exact ⟨h.1.1.1.1, by omega⟩
set_option maxRecDepth 100000 in
set_option maxHeartbeats 2000000 in
theorem r5 (l which : List Nat) (hl : l.length ≤ maxLen) (hw : which.length ≤ maxLen) : Ret Try.prog 5 [.lst 1 (l.map byteI) false, .lst 1 (which.map byteI) false] (.v (.bool true)) := by
  refine ret_of_body (fn := Try.f5) (c := Try.f5.body.getD .skip) hm hT (by kernel_rfl) Try.func5 (by kernel_rfl) (by kernel_rfl) (by kernel_rfl) (by kernel_rfl) ?_
  repeat' ((conv => whnf); first | refine And.intro (fun h => h) ?_ | refine dcond_t (by assumption) ?_ | refine dcond_f (by assumption) ?_ | (refine dcond_intro ?_ ?_ <;> intro h) | exact .refl | refine And.intro (by kernel_rfl) ?_ | refine And.intro ⟨fun h => h, fun h => h⟩ ?_ | refine .inl ⟨_, _, DleAll_refl _, r9, ?_⟩ | refine ⟨_, _, DleAll_refl _, fun _ => r9, ?_⟩ | refine ⟨_, _, DleAll_refl _, r9, ?_⟩ | refine .inl ⟨_, _, DleAll_refl _, r24, ?_⟩ | refine ⟨_, _, DleAll_refl _, fun _ => r24, ?_⟩ | refine ⟨_, _, DleAll_refl _, r24, ?_⟩ | (refine And.intro ?_ ?_; focus (simp; done)) | fail)
  all_goals (conv => whnf)
  have hs : l.length ≤ 100 ∧ l.length ≤ which.length := by
    simp only [List.length_map, Bool.or_eq_false_iff, decide_eq_false_iff_not] at h
    omega
  clear h
  refine ⟨GS, gEnc l which, fun s => s.i ≤ l.length ∧ accB s.a = true ∧ s.a.cut.length ≤ 1000 ∧ 0 ≤ s.votes ∧ (s.votes = 0 ∨ s.votes = 1 ∧ 0 ≤ s.a.rank), fun s => l.length - s.i, [], ⟨⟨0, ⟨0, -1, []⟩, 0⟩, ⟨Nat.zero_le _, by kernel_rfl, by simp, by simp, .inl rfl⟩, ?_⟩, ?_⟩
  · conv => whnf
    exact ⟨by repeat' ((conv => whnf); first | exact trivial | refine And.intro (by (conv => arg 1; whnf); first | (with_reducible exact .refl) | exact dle_int (wrap_succ (by omega)) | exact .refl) ?_), by repeat' ((conv => whnf); first | exact trivial | refine And.intro ?_ ?_ | exact .refl), rfl⟩
  · rintro ⟨i, a, votes⟩ ⟨hi, hv, hcl, hv0, hv1⟩
    simp only [] at hi hv hcl hv0 hv1
    repeat' ((conv => whnf); first | refine And.intro (fun h => h) ?_ | refine dcond_t (by assumption) ?_ | refine dcond_f (by assumption) ?_ | (refine dcond_intro ?_ ?_ <;> intro h) | exact .refl | refine And.intro (by kernel_rfl) ?_ | refine And.intro ⟨fun h => h, fun h => h⟩ ?_ | (refine And.intro ?_ ?_; focus (simp; done)) | fail)
    · have hlt : i < l.length := by simpa using h
      have hlt2 : i < which.length := by omega
      clear h
      have hn : a.cut.length ≤ maxLen := by simp only [maxLen]; omega
      have h6 : a.cut.length ≤ 1000000 := by omega
      have s14 := vote_step hv [cX (which[i]'hlt2)]
      have s18 := accept_step hv (rX (l[i]'hlt)) [cX (which[i]'hlt2)]
      have s16 := prep_step hv (rX (l[i]'hlt))
      have e14 := r14 a h6 [cX (which[i]'hlt2)] (by simp)
      have e18 := r18 a h6 (rX (l[i]'hlt)) [cX (which[i]'hlt2)] (by simp)
      have e16 := r16 a h6 (rX (l[i]'hlt))
      have l14 : (voteR a [cX (which[i]'hlt2)]).1.cut.length ≤ 1000 := vote_len hcl (by simp)
      have l18 : (acceptR a (rX (l[i]'hlt)) [cX (which[i]'hlt2)]).1.cut.length ≤ 1000 := accept_len hcl (by simp)
      have l16 := prep_len (a := a) (rank := rX (l[i]'hlt)) hcl
      generalize voteR a [cX (which[i]'hlt2)] = vb at s14 e14 l14
      generalize acceptR a (rX (l[i]'hlt)) [cX (which[i]'hlt2)] = tb at s18 e18 l18
      generalize prepR a (rX (l[i]'hlt)) = pb at s16 e16 l16
      obtain ⟨vb, vo⟩ := vb
      obtain ⟨pb, pr, po⟩ := pb
      obtain ⟨tb, to⟩ := tb
      simp only [] at s14 s18 s16 l14 l18 l16
      have lm : ∀ {n : Nat}, n ≤ 1000 → n ≤ maxLen := fun h => by simp only [maxLen]; omega
      repeat' ((conv => whnf); first | refine And.intro (fun h => h) ?_ | refine dcond_t (by assumption) ?_ | refine dcond_f (by assumption) ?_ | (refine dcond_intro ?_ ?_ <;> intro h) | exact .refl | refine And.intro (by kernel_rfl) ?_ | refine And.intro ⟨fun h => h, fun h => h⟩ ?_ | refine ⟨_, _, And.intro ⟨rfl, get_map hlt⟩ ?_⟩ | refine ⟨_, _, And.intro ⟨rfl, get_map hlt2⟩ ?_⟩ | refine .inl ⟨_, _, DleAll_refl _, r10 _ _, ?_⟩ | refine ⟨_, _, DleAll_refl _, fun _ => r10 _ _, ?_⟩ | refine ⟨_, _, DleAll_refl _, r10 _ _, ?_⟩ | refine .inl ⟨_, _, DleAll_refl _, e14, ?_⟩ | refine ⟨_, _, DleAll_refl _, fun _ => e14, ?_⟩ | refine ⟨_, _, DleAll_refl _, e14, ?_⟩ | refine .inl ⟨_, _, DleAll_refl _, e18, ?_⟩ | refine ⟨_, _, DleAll_refl _, fun _ => e18, ?_⟩ | refine ⟨_, _, DleAll_refl _, e18, ?_⟩ | refine .inl ⟨_, _, DleAll_refl _, e16, ?_⟩ | refine ⟨_, _, DleAll_refl _, fun _ => e16, ?_⟩ | refine ⟨_, _, DleAll_refl _, e16, ?_⟩ | refine .inl ⟨_, _, DleAll_refl _, r23 _ _ (lm l14), ?_⟩ | refine ⟨_, _, DleAll_refl _, fun _ => r23 _ _ (lm l14), ?_⟩ | refine ⟨_, _, DleAll_refl _, r23 _ _ (lm l14), ?_⟩ | refine ⟨[.lst 1 (tb.cut.map intE) false, .lst 1 ([cX (which[i]'hlt2)].map intE) false], _, ⟨.refl, .refl, trivial⟩, fun _ => r23 tb.cut [cX (which[i]'hlt2)] (lm l18), ?_⟩ | refine .inl ⟨_, _, DleAll_refl _, r23 _ _ (lm l18), ?_⟩ | refine ⟨_, _, DleAll_refl _, fun _ => r23 _ _ (lm l18), ?_⟩ | refine ⟨_, _, DleAll_refl _, r23 _ _ (lm l18), ?_⟩ | refine .inl ⟨_, _, DleAll_refl _, r23 _ _ (lm l16.1), ?_⟩ | refine ⟨_, _, DleAll_refl _, fun _ => r23 _ _ (lm l16.1), ?_⟩ | refine ⟨_, _, DleAll_refl _, r23 _ _ (lm l16.1), ?_⟩ | refine .inl ⟨_, _, DleAll_refl _, r23 _ _ (lm l16.2), ?_⟩ | refine ⟨_, _, DleAll_refl _, fun _ => r23 _ _ (lm l16.2), ?_⟩ | refine ⟨_, _, DleAll_refl _, r23 _ _ (lm l16.2), ?_⟩ | refine .inl ⟨_, _, DleAll_refl _, r23 _ _ hn, ?_⟩ | refine ⟨_, _, DleAll_refl _, fun _ => r23 _ _ hn, ?_⟩ | refine ⟨_, _, DleAll_refl _, r23 _ _ hn, ?_⟩ | refine .inl ⟨_, _, DleAll_refl _, r20 _ (lm l14), ?_⟩ | refine ⟨_, _, DleAll_refl _, fun _ => r20 _ (lm l14), ?_⟩ | refine ⟨_, _, DleAll_refl _, r20 _ (lm l14), ?_⟩ | refine .inl ⟨_, _, DleAll_refl _, r20 _ (lm l18), ?_⟩ | refine ⟨_, _, DleAll_refl _, fun _ => r20 _ (lm l18), ?_⟩ | refine ⟨_, _, DleAll_refl _, r20 _ (lm l18), ?_⟩ | refine .inl ⟨_, _, DleAll_refl _, r20 _ (lm l16.1), ?_⟩ | refine ⟨_, _, DleAll_refl _, fun _ => r20 _ (lm l16.1), ?_⟩ | refine ⟨_, _, DleAll_refl _, r20 _ (lm l16.1), ?_⟩ | (refine And.intro ?_ ?_; focus (simp; done)) | fail)
      all_goals (conv => whnf)
      all_goals try (exfalso; first | exact Bool.noConfusion (s14.1.symm.trans h) | exact Bool.noConfusion (s18.1.symm.trans h) | exact Bool.noConfusion (s18.2.1.symm.trans h) | exact Bool.noConfusion (s16.1.symm.trans h) | exact Bool.noConfusion (s16.2.1.symm.trans h))
      · rename_i _ hok
        have hq := s14.2 hok
        have hz : votes = 0 := by omega
        refine ⟨⟨i + 1, vb, votes + 1⟩, ⟨hlt, (bad_ok s14.1).1, l14, by simp only []; omega, .inr ⟨by simp only []; omega, by simp only []; omega⟩⟩, by simp only []; omega, ?_⟩
        exact ⟨⟨.refl, .refl, .refl, dle_int (wrap_i64 (n := votes + 1) (by omega) (by omega)), dle_int (wrap_succ (i := i) (by omega)), trivial⟩, ⟨.refl, trivial⟩, rfl⟩
      · refine ⟨⟨i + 1, vb, votes⟩, ⟨hlt, (bad_ok s14.1).1, l14, hv0, ?_⟩, by simp only []; omega, ?_⟩
        · have := (bad_ok s14.1).2
          simp only []; omega
        · exact ⟨⟨.refl, .refl, .refl, .refl, dle_int (wrap_succ (i := i) (by omega)), trivial⟩, ⟨.refl, trivial⟩, rfl⟩
      · refine ⟨⟨i + 1, tb, votes⟩, ⟨hlt, (bad_ok s18.1).1, l18, hv0, ?_⟩, by simp only []; omega, ?_⟩
        · have := s18.2.2
          simp only []; omega
        · exact ⟨⟨.refl, .refl, .refl, .refl, dle_int (wrap_succ (i := i) (by omega)), trivial⟩, ⟨.refl, trivial⟩, rfl⟩
      · refine ⟨⟨i + 1, tb, votes⟩, ⟨hlt, (bad_ok s18.1).1, l18, hv0, ?_⟩, by simp only []; omega, ?_⟩
        · have := s18.2.2
          simp only []; omega
        · exact ⟨⟨.refl, .refl, .refl, .refl, dle_int (wrap_succ (i := i) (by omega)), trivial⟩, ⟨.refl, trivial⟩, rfl⟩
      · refine ⟨⟨i + 1, pb, votes⟩, ⟨hlt, (bad_ok s16.1).1, l16.1, hv0, ?_⟩, by simp only []; omega, ?_⟩
        · have := s16.2.2
          simp only []; omega
        · exact ⟨⟨.refl, .refl, .refl, .refl, dle_int (wrap_succ (i := i) (by omega)), trivial⟩, ⟨.refl, trivial⟩, rfl⟩
    · have hge : ¬ i < l.length := by simpa using h
      repeat' ((conv => whnf); first | refine And.intro (fun h => h) ?_ | refine dcond_t (by assumption) ?_ | refine dcond_f (by assumption) ?_ | (refine dcond_intro ?_ ?_ <;> intro h) | exact .refl | refine And.intro (by kernel_rfl) ?_ | refine And.intro ⟨fun h => h, fun h => h⟩ ?_ | (refine And.intro ?_ ?_; focus (simp; done)) | fail)
      all_goals (conv => whnf)
      refine dle_bool ?_
      rcases hv1 with h | h <;> simp [h]
theorem dat_u8s {n : Nat} {r : List DV} (h : Dat tt (n + 2) 41 r) : ∃ l : List Nat, r = [.lst 1 (l.map byteI) false] ∧ l.length ≤ maxLen := by
  obtain ⟨es, rfl, hl, hes⟩ := h
  obtain ⟨d, rfl, _⟩ := list_data (f := byteI) (Q := fun _ => True) (fun r hr => by
    obtain ⟨i, rfl, hi⟩ := hes r hr
    have hb := bounds_u8 (by exact hi)
    exact ⟨i.toNat, by simp only [byteI]; rw [Int.toNat_of_nonneg (by omega)], trivial⟩)
  exact ⟨d, rfl, by simpa using hl⟩
theorem law5 (dvs : List DV) (h : DatAll tt 5 [41, 41] dvs) : Ret Try.prog 5 dvs (.v (.bool true)) := by
  obtain ⟨a, _, rfl, ha, b, _, rfl, hb, rfl⟩ := h
  obtain ⟨a, rfl, hl⟩ := dat_u8s (n := 3) ha
  obtain ⟨c, rfl, hcl⟩ := dat_u8s (n := 3) hb
  exact r5 a c hl hcl
end Go.Proofs.Ytmfgjjnmfahcjaa
