/- The laws of this seat, part OwC: contracts of the functions, plain laws. No conditions. -/
import Derived.Test.YtmbniilpgbjcfaaOwB
set_option linter.unusedSimpArgs false
set_option linter.unusedVariables false
set_option maxRecDepth 100000
namespace Go.Proofs.Ytmbniilpgbjcfaa
open Go.Lift
set_option maxHeartbeats 8000000 in
theorem m_resend (s : Agr) (hs : SmA s) : RetM Try.prog 69 [.cells 95 (agrE s ++ [.nl])] [.lp 0 0] [true] [.cells 95 (agrE s ++ [.own 2]), .dead, .row 48 7 ((rsdA s).map pktE)] (.tup []) := by
  have e1 := c_agreement_ballotOf s.box (mx hs.box) s.self
  have hcl := cutOf_len hs.boxc s.self
  have e2 := c_agreement_reportOf s.accs (mx hs.accs) s.self
  have hix := @ofr_ix s.accs s.self
  have hac := hs.accc
  have hch := hs.cho
  obtain ⟨R, hR⟩ : ∃ R, R = rsdA s := ⟨_, rfl⟩
  rw [← hR]
  unfold rsdA sndV sndP sndA at hR
  generalize cutOf s.box s.self = C at *
  generalize ofB s.accs s.self = K at *
  generalize hD : s.accs.getD K.toNat rpt0 = D at *
  have hdl : D.cut.length ≤ 1000 := by
    rw [← hD]
    rcases Nat.lt_or_ge K.toNat s.accs.length with h | h
    · simp only [List.getD_eq_getElem?_getD, List.getElem?_eq_getElem h, Option.getD_some]
      exact hac _ (List.getElem_mem h)
    · simp only [List.getD_eq_getElem?_getD, List.getElem?_eq_none h, Option.getD_none]
      exact Nat.zero_le _
  have hget : decide (0 ≤ K) = true → (s.accs.map rptE)[K.toNat]? = some (rptE D) := fun h => by
    have := (hix h).2
    rw [← hD]
    simp [this]
  have hK0 : decide (0 ≤ K) = true → K = (K.toNat : Int) := fun h => (hix h).1
  have v1 := m_send_sq s 0 1 0 0 C.1 (by omega)
  have p1 := m_send_sq s 0 2 s.rank 0 [] (by simp)
  have p2 := m_send_osq s [pktOf s 0 1 0 0 C.1] (by simp) 0 2 s.rank 0 [] (by simp)
  have q1 := m_send_sq s 0 4 s.rank 0 s.cho (by omega)
  have q2 := m_send_osq s [pktOf s 0 1 0 0 C.1] (by simp) 0 4 s.rank 0 s.cho (by omega)
  have a1 := m_send_sq s 0 5 D.rank 0 D.cut (by omega)
  have a2 := m_send_osq s [pktOf s 0 1 0 0 C.1] (by simp) 0 5 D.rank 0 D.cut (by omega)
  have a3 := m_send_osq s [pktOf s 0 2 s.rank 0 []] (by simp) 0 5 D.rank 0 D.cut (by omega)
  have a4 := m_send_osq s [pktOf s 0 1 0 0 C.1, pktOf s 0 2 s.rank 0 []] (by simp) 0 5 D.rank 0 D.cut (by omega)
  clear hac hix hdl hD hcl
  refine retM_of_bodyA (fn := Try.f69) (c := Try.f69.body.getD .skip) hm hT (by kernel_rfl) Try.func69 (by kernel_rfl) (by kernel_rfl) (by kernel_rfl) (by kernel_rfl) (by kernel_rfl) ?_
  repeat' ((conv => whnf); first | refine And.intro (fun h => h) ?_ | refine dcond_t (by assumption) ?_ | refine dcond_f (by assumption) ?_ | (refine dcond_intro ?_ ?_ <;> intro h) | exact .refl | refine And.intro (by kernel_rfl) ?_ | refine And.intro ⟨fun h => h, fun h => h⟩ ?_ | refine .inl ⟨_, _, DleAll_refl _, e1, ?_⟩ | refine ⟨_, _, DleAll_refl _, fun _ => e1, ?_⟩ | refine ⟨_, _, DleAll_refl _, e1, ?_⟩ | refine .inl ⟨_, _, DleAll_refl _, e2, ?_⟩ | refine ⟨_, _, DleAll_refl _, fun _ => e2, ?_⟩ | refine ⟨_, _, DleAll_refl _, e2, ?_⟩ | refine .inr ⟨[0], _, _, _, _, _, v1, by rfl, ⟨.refl, trivial⟩, ⟨.refl, .refl, .refl, .refl, .refl, .refl, trivial⟩, ?_⟩ | refine Exists.intro false ?_ | (refine And.intro ?_ ?_; focus (simp; done)) | fail)
  all_goals (conv => whnf)
  · rename_i hC
    have h1 := h
    clear h
    repeat' ((conv => whnf); first | refine And.intro (fun h => h) ?_ | refine dcond_t (by assumption) ?_ | refine dcond_f (by assumption) ?_ | (refine dcond_intro ?_ ?_ <;> intro h) | exact .refl | refine And.intro (by kernel_rfl) ?_ | refine And.intro ⟨fun h => h, fun h => h⟩ ?_ | refine .inl ⟨_, _, DleAll_refl _, e2, ?_⟩ | refine ⟨_, _, DleAll_refl _, fun _ => e2, ?_⟩ | refine ⟨_, _, DleAll_refl _, e2, ?_⟩ | refine .inr ⟨[0, 3], _, _, _, _, _, p2, by rfl, ⟨.refl, .refl, trivial⟩, ⟨.refl, .refl, .refl, .refl, .refl, .nl, trivial⟩, ?_⟩ | refine .inr ⟨[0, 4], _, _, _, _, _, p2, by rfl, ⟨.refl, .refl, trivial⟩, ⟨.refl, .refl, .refl, .refl, .refl, .nl, trivial⟩, ?_⟩ | refine .inr ⟨[0, 5], _, _, _, _, _, p2, by rfl, ⟨.refl, .refl, trivial⟩, ⟨.refl, .refl, .refl, .refl, .refl, .nl, trivial⟩, ?_⟩ | refine .inr ⟨[0, 6], _, _, _, _, _, p2, by rfl, ⟨.refl, .refl, trivial⟩, ⟨.refl, .refl, .refl, .refl, .refl, .nl, trivial⟩, ?_⟩ | refine .inr ⟨[0, 7], _, _, _, _, _, p2, by rfl, ⟨.refl, .refl, trivial⟩, ⟨.refl, .refl, .refl, .refl, .refl, .nl, trivial⟩, ?_⟩ | refine .inr ⟨[0, 8], _, _, _, _, _, p2, by rfl, ⟨.refl, .refl, trivial⟩, ⟨.refl, .refl, .refl, .refl, .refl, .nl, trivial⟩, ?_⟩ | refine .inr ⟨[0, 9], _, _, _, _, _, p2, by rfl, ⟨.refl, .refl, trivial⟩, ⟨.refl, .refl, .refl, .refl, .refl, .nl, trivial⟩, ?_⟩ | refine Exists.intro false ?_ | (refine And.intro ?_ ?_; focus (simp; done)) | fail)
    all_goals (conv => whnf)
    · have h0K : decide (0 ≤ K) = true := ((Bool.and_eq_true ..).mp h).1
      have hKe := hK0 h0K
      have hge := hget h0K
      repeat' ((conv => whnf); first | refine And.intro (fun h => h) ?_ | refine dcond_t (by assumption) ?_ | refine dcond_f (by assumption) ?_ | (refine dcond_intro ?_ ?_ <;> intro h) | exact .refl | refine And.intro (by kernel_rfl) ?_ | refine And.intro ⟨fun h => h, fun h => h⟩ ?_ | refine ⟨K.toNat, rptE D, And.intro ⟨hKe, hge⟩ ?_⟩ | refine .inr ⟨[0, 3], _, _, _, _, _, a4, by rfl, ⟨.refl, .refl, trivial⟩, ⟨.refl, .refl, .refl, .refl, .refl, .refl, trivial⟩, ?_⟩ | refine .inr ⟨[0, 4], _, _, _, _, _, a4, by rfl, ⟨.refl, .refl, trivial⟩, ⟨.refl, .refl, .refl, .refl, .refl, .refl, trivial⟩, ?_⟩ | refine .inr ⟨[0, 5], _, _, _, _, _, a4, by rfl, ⟨.refl, .refl, trivial⟩, ⟨.refl, .refl, .refl, .refl, .refl, .refl, trivial⟩, ?_⟩ | refine .inr ⟨[0, 6], _, _, _, _, _, a4, by rfl, ⟨.refl, .refl, trivial⟩, ⟨.refl, .refl, .refl, .refl, .refl, .refl, trivial⟩, ?_⟩ | refine .inr ⟨[0, 7], _, _, _, _, _, a4, by rfl, ⟨.refl, .refl, trivial⟩, ⟨.refl, .refl, .refl, .refl, .refl, .refl, trivial⟩, ?_⟩ | refine .inr ⟨[0, 8], _, _, _, _, _, a4, by rfl, ⟨.refl, .refl, trivial⟩, ⟨.refl, .refl, .refl, .refl, .refl, .refl, trivial⟩, ?_⟩ | refine .inr ⟨[0, 9], _, _, _, _, _, a4, by rfl, ⟨.refl, .refl, trivial⟩, ⟨.refl, .refl, .refl, .refl, .refl, .refl, trivial⟩, ?_⟩ | refine Exists.intro false ?_ | (refine And.intro ?_ ?_; focus (simp; done)) | fail)
      all_goals (conv => whnf)
      have h2 : decide (s.phase = 2) = false := decide_eq_false (by have := of_decide_eq_true h1; omega)
      simp only [hC, h1, h2, h0K, Bool.and_true, Bool.and_false, Bool.not_true, Bool.not_false, cond_true, cond_false, List.nil_append, List.append_nil, List.cons_append] at hR
      subst hR
      first | (refine ⟨[], ?_⟩; (conv => whnf); exact ⟨.refl, ⟨.refl, .refl, .refl, trivial⟩, by rfl⟩) | (refine ⟨[.xchg 2 3], ?_⟩; (conv => whnf); exact ⟨.refl, ⟨.refl, .refl, .refl, trivial⟩, by rfl⟩) | (refine ⟨[.xchg 2 4], ?_⟩; (conv => whnf); exact ⟨.refl, ⟨.refl, .refl, .refl, trivial⟩, by rfl⟩) | (refine ⟨[.xchg 2 5], ?_⟩; (conv => whnf); exact ⟨.refl, ⟨.refl, .refl, .refl, trivial⟩, by rfl⟩) | (refine ⟨[.xchg 2 6], ?_⟩; (conv => whnf); exact ⟨.refl, ⟨.refl, .refl, .refl, trivial⟩, by rfl⟩) | (refine ⟨[.xchg 2 7], ?_⟩; (conv => whnf); exact ⟨.refl, ⟨.refl, .refl, .refl, trivial⟩, by rfl⟩) | fail
    · have h2 : decide (s.phase = 2) = false := decide_eq_false (by have := of_decide_eq_true h1; omega)
      simp only [hC, h1, h, Bool.and_true, Bool.and_false, Bool.not_true, Bool.not_false, cond_true, cond_false, List.nil_append, List.append_nil, List.cons_append] at hR
      subst hR
      first | (refine ⟨[], ?_⟩; (conv => whnf); exact ⟨.refl, ⟨.refl, .refl, .refl, trivial⟩, by rfl⟩) | (refine ⟨[.xchg 2 3], ?_⟩; (conv => whnf); exact ⟨.refl, ⟨.refl, .refl, .refl, trivial⟩, by rfl⟩) | (refine ⟨[.xchg 2 4], ?_⟩; (conv => whnf); exact ⟨.refl, ⟨.refl, .refl, .refl, trivial⟩, by rfl⟩) | (refine ⟨[.xchg 2 5], ?_⟩; (conv => whnf); exact ⟨.refl, ⟨.refl, .refl, .refl, trivial⟩, by rfl⟩) | (refine ⟨[.xchg 2 6], ?_⟩; (conv => whnf); exact ⟨.refl, ⟨.refl, .refl, .refl, trivial⟩, by rfl⟩) | (refine ⟨[.xchg 2 7], ?_⟩; (conv => whnf); exact ⟨.refl, ⟨.refl, .refl, .refl, trivial⟩, by rfl⟩) | fail
  · rename_i hC h1
    have h2 := h
    clear h
    repeat' ((conv => whnf); first | refine And.intro (fun h => h) ?_ | refine dcond_t (by assumption) ?_ | refine dcond_f (by assumption) ?_ | (refine dcond_intro ?_ ?_ <;> intro h) | exact .refl | refine And.intro (by kernel_rfl) ?_ | refine And.intro ⟨fun h => h, fun h => h⟩ ?_ | refine .inl ⟨_, _, DleAll_refl _, e2, ?_⟩ | refine ⟨_, _, DleAll_refl _, fun _ => e2, ?_⟩ | refine ⟨_, _, DleAll_refl _, e2, ?_⟩ | refine .inr ⟨[0, 3], _, _, _, _, _, q2, by rfl, ⟨.refl, .refl, trivial⟩, ⟨.refl, .refl, .refl, .refl, .refl, .refl, trivial⟩, ?_⟩ | refine .inr ⟨[0, 4], _, _, _, _, _, q2, by rfl, ⟨.refl, .refl, trivial⟩, ⟨.refl, .refl, .refl, .refl, .refl, .refl, trivial⟩, ?_⟩ | refine .inr ⟨[0, 5], _, _, _, _, _, q2, by rfl, ⟨.refl, .refl, trivial⟩, ⟨.refl, .refl, .refl, .refl, .refl, .refl, trivial⟩, ?_⟩ | refine .inr ⟨[0, 6], _, _, _, _, _, q2, by rfl, ⟨.refl, .refl, trivial⟩, ⟨.refl, .refl, .refl, .refl, .refl, .refl, trivial⟩, ?_⟩ | refine .inr ⟨[0, 7], _, _, _, _, _, q2, by rfl, ⟨.refl, .refl, trivial⟩, ⟨.refl, .refl, .refl, .refl, .refl, .refl, trivial⟩, ?_⟩ | refine .inr ⟨[0, 8], _, _, _, _, _, q2, by rfl, ⟨.refl, .refl, trivial⟩, ⟨.refl, .refl, .refl, .refl, .refl, .refl, trivial⟩, ?_⟩ | refine .inr ⟨[0, 9], _, _, _, _, _, q2, by rfl, ⟨.refl, .refl, trivial⟩, ⟨.refl, .refl, .refl, .refl, .refl, .refl, trivial⟩, ?_⟩ | refine Exists.intro false ?_ | (refine And.intro ?_ ?_; focus (simp; done)) | fail)
    all_goals (conv => whnf)
    · rw [h2] at h
      simp at h
    · simp only [hC, h1, h2, h, Bool.and_true, Bool.and_false, Bool.not_true, Bool.not_false, cond_true, cond_false, List.nil_append, List.append_nil, List.cons_append] at hR
      subst hR
      first | (refine ⟨[], ?_⟩; (conv => whnf); exact ⟨.refl, ⟨.refl, .refl, .refl, trivial⟩, by rfl⟩) | (refine ⟨[.xchg 2 3], ?_⟩; (conv => whnf); exact ⟨.refl, ⟨.refl, .refl, .refl, trivial⟩, by rfl⟩) | (refine ⟨[.xchg 2 4], ?_⟩; (conv => whnf); exact ⟨.refl, ⟨.refl, .refl, .refl, trivial⟩, by rfl⟩) | (refine ⟨[.xchg 2 5], ?_⟩; (conv => whnf); exact ⟨.refl, ⟨.refl, .refl, .refl, trivial⟩, by rfl⟩) | (refine ⟨[.xchg 2 6], ?_⟩; (conv => whnf); exact ⟨.refl, ⟨.refl, .refl, .refl, trivial⟩, by rfl⟩) | (refine ⟨[.xchg 2 7], ?_⟩; (conv => whnf); exact ⟨.refl, ⟨.refl, .refl, .refl, trivial⟩, by rfl⟩) | fail
  · rename_i hC h1 h2
    have h0K : decide (0 ≤ K) = true := ((Bool.and_eq_true ..).mp h).1
    have hKe := hK0 h0K
    have hge := hget h0K
    repeat' ((conv => whnf); first | refine And.intro (fun h => h) ?_ | refine dcond_t (by assumption) ?_ | refine dcond_f (by assumption) ?_ | (refine dcond_intro ?_ ?_ <;> intro h) | exact .refl | refine And.intro (by kernel_rfl) ?_ | refine And.intro ⟨fun h => h, fun h => h⟩ ?_ | refine ⟨K.toNat, rptE D, And.intro ⟨hKe, hge⟩ ?_⟩ | refine .inr ⟨[0, 3], _, _, _, _, _, a2, by rfl, ⟨.refl, .refl, trivial⟩, ⟨.refl, .refl, .refl, .refl, .refl, .refl, trivial⟩, ?_⟩ | refine .inr ⟨[0, 4], _, _, _, _, _, a2, by rfl, ⟨.refl, .refl, trivial⟩, ⟨.refl, .refl, .refl, .refl, .refl, .refl, trivial⟩, ?_⟩ | refine .inr ⟨[0, 5], _, _, _, _, _, a2, by rfl, ⟨.refl, .refl, trivial⟩, ⟨.refl, .refl, .refl, .refl, .refl, .refl, trivial⟩, ?_⟩ | refine .inr ⟨[0, 6], _, _, _, _, _, a2, by rfl, ⟨.refl, .refl, trivial⟩, ⟨.refl, .refl, .refl, .refl, .refl, .refl, trivial⟩, ?_⟩ | refine .inr ⟨[0, 7], _, _, _, _, _, a2, by rfl, ⟨.refl, .refl, trivial⟩, ⟨.refl, .refl, .refl, .refl, .refl, .refl, trivial⟩, ?_⟩ | refine .inr ⟨[0, 8], _, _, _, _, _, a2, by rfl, ⟨.refl, .refl, trivial⟩, ⟨.refl, .refl, .refl, .refl, .refl, .refl, trivial⟩, ?_⟩ | refine .inr ⟨[0, 9], _, _, _, _, _, a2, by rfl, ⟨.refl, .refl, trivial⟩, ⟨.refl, .refl, .refl, .refl, .refl, .refl, trivial⟩, ?_⟩ | refine Exists.intro false ?_ | (refine And.intro ?_ ?_; focus (simp; done)) | fail)
    all_goals (conv => whnf)
    simp only [hC, h1, h2, h0K, Bool.and_true, Bool.and_false, Bool.not_true, Bool.not_false, cond_true, cond_false, List.nil_append, List.append_nil, List.cons_append] at hR
    subst hR
    first | (refine ⟨[], ?_⟩; (conv => whnf); exact ⟨.refl, ⟨.refl, .refl, .refl, trivial⟩, by rfl⟩) | (refine ⟨[.xchg 2 3], ?_⟩; (conv => whnf); exact ⟨.refl, ⟨.refl, .refl, .refl, trivial⟩, by rfl⟩) | (refine ⟨[.xchg 2 4], ?_⟩; (conv => whnf); exact ⟨.refl, ⟨.refl, .refl, .refl, trivial⟩, by rfl⟩) | (refine ⟨[.xchg 2 5], ?_⟩; (conv => whnf); exact ⟨.refl, ⟨.refl, .refl, .refl, trivial⟩, by rfl⟩) | (refine ⟨[.xchg 2 6], ?_⟩; (conv => whnf); exact ⟨.refl, ⟨.refl, .refl, .refl, trivial⟩, by rfl⟩) | (refine ⟨[.xchg 2 7], ?_⟩; (conv => whnf); exact ⟨.refl, ⟨.refl, .refl, .refl, trivial⟩, by rfl⟩) | fail
  · rename_i hC h1 h2
    have h0 : decide (0 ≤ K) = false := by
      rw [h2] at h
      simpa using h
    simp only [hC, h1, h2, h0, Bool.false_and, Bool.and_true, Bool.and_false, Bool.not_true, Bool.not_false, cond_true, cond_false, List.nil_append, List.append_nil, List.cons_append] at hR
    subst hR
    first | (refine ⟨[], ?_⟩; (conv => whnf); exact ⟨.refl, ⟨.refl, .refl, .refl, trivial⟩, by rfl⟩) | (refine ⟨[.xchg 2 3], ?_⟩; (conv => whnf); exact ⟨.refl, ⟨.refl, .refl, .refl, trivial⟩, by rfl⟩) | (refine ⟨[.xchg 2 4], ?_⟩; (conv => whnf); exact ⟨.refl, ⟨.refl, .refl, .refl, trivial⟩, by rfl⟩) | (refine ⟨[.xchg 2 5], ?_⟩; (conv => whnf); exact ⟨.refl, ⟨.refl, .refl, .refl, trivial⟩, by rfl⟩) | (refine ⟨[.xchg 2 6], ?_⟩; (conv => whnf); exact ⟨.refl, ⟨.refl, .refl, .refl, trivial⟩, by rfl⟩) | (refine ⟨[.xchg 2 7], ?_⟩; (conv => whnf); exact ⟨.refl, ⟨.refl, .refl, .refl, trivial⟩, by rfl⟩) | fail
  · rename_i hC
    have h1 := h
    clear h
    repeat' ((conv => whnf); first | refine And.intro (fun h => h) ?_ | refine dcond_t (by assumption) ?_ | refine dcond_f (by assumption) ?_ | (refine dcond_intro ?_ ?_ <;> intro h) | exact .refl | refine And.intro (by kernel_rfl) ?_ | refine And.intro ⟨fun h => h, fun h => h⟩ ?_ | refine .inl ⟨_, _, DleAll_refl _, e2, ?_⟩ | refine ⟨_, _, DleAll_refl _, fun _ => e2, ?_⟩ | refine ⟨_, _, DleAll_refl _, e2, ?_⟩ | refine .inr ⟨[0], _, _, _, _, _, p1, by rfl, ⟨.refl, trivial⟩, ⟨.refl, .refl, .refl, .refl, .refl, .nl, trivial⟩, ?_⟩ | refine Exists.intro false ?_ | (refine And.intro ?_ ?_; focus (simp; done)) | fail)
    all_goals (conv => whnf)
    · have h0K : decide (0 ≤ K) = true := ((Bool.and_eq_true ..).mp h).1
      have hKe := hK0 h0K
      have hge := hget h0K
      repeat' ((conv => whnf); first | refine And.intro (fun h => h) ?_ | refine dcond_t (by assumption) ?_ | refine dcond_f (by assumption) ?_ | (refine dcond_intro ?_ ?_ <;> intro h) | exact .refl | refine And.intro (by kernel_rfl) ?_ | refine And.intro ⟨fun h => h, fun h => h⟩ ?_ | refine ⟨K.toNat, rptE D, And.intro ⟨hKe, hge⟩ ?_⟩ | refine .inr ⟨[0, 3], _, _, _, _, _, a3, by rfl, ⟨.refl, .refl, trivial⟩, ⟨.refl, .refl, .refl, .refl, .refl, .refl, trivial⟩, ?_⟩ | refine .inr ⟨[0, 4], _, _, _, _, _, a3, by rfl, ⟨.refl, .refl, trivial⟩, ⟨.refl, .refl, .refl, .refl, .refl, .refl, trivial⟩, ?_⟩ | refine .inr ⟨[0, 5], _, _, _, _, _, a3, by rfl, ⟨.refl, .refl, trivial⟩, ⟨.refl, .refl, .refl, .refl, .refl, .refl, trivial⟩, ?_⟩ | refine .inr ⟨[0, 6], _, _, _, _, _, a3, by rfl, ⟨.refl, .refl, trivial⟩, ⟨.refl, .refl, .refl, .refl, .refl, .refl, trivial⟩, ?_⟩ | refine .inr ⟨[0, 7], _, _, _, _, _, a3, by rfl, ⟨.refl, .refl, trivial⟩, ⟨.refl, .refl, .refl, .refl, .refl, .refl, trivial⟩, ?_⟩ | refine .inr ⟨[0, 8], _, _, _, _, _, a3, by rfl, ⟨.refl, .refl, trivial⟩, ⟨.refl, .refl, .refl, .refl, .refl, .refl, trivial⟩, ?_⟩ | refine .inr ⟨[0, 9], _, _, _, _, _, a3, by rfl, ⟨.refl, .refl, trivial⟩, ⟨.refl, .refl, .refl, .refl, .refl, .refl, trivial⟩, ?_⟩ | refine Exists.intro false ?_ | (refine And.intro ?_ ?_; focus (simp; done)) | fail)
      all_goals (conv => whnf)
      have h2 : decide (s.phase = 2) = false := decide_eq_false (by have := of_decide_eq_true h1; omega)
      simp only [hC, h1, h2, h0K, Bool.and_true, Bool.and_false, Bool.not_true, Bool.not_false, cond_true, cond_false, List.nil_append, List.append_nil, List.cons_append] at hR
      subst hR
      first | (refine ⟨[], ?_⟩; (conv => whnf); exact ⟨.refl, ⟨.refl, .refl, .refl, trivial⟩, by rfl⟩) | (refine ⟨[.xchg 2 3], ?_⟩; (conv => whnf); exact ⟨.refl, ⟨.refl, .refl, .refl, trivial⟩, by rfl⟩) | (refine ⟨[.xchg 2 4], ?_⟩; (conv => whnf); exact ⟨.refl, ⟨.refl, .refl, .refl, trivial⟩, by rfl⟩) | (refine ⟨[.xchg 2 5], ?_⟩; (conv => whnf); exact ⟨.refl, ⟨.refl, .refl, .refl, trivial⟩, by rfl⟩) | (refine ⟨[.xchg 2 6], ?_⟩; (conv => whnf); exact ⟨.refl, ⟨.refl, .refl, .refl, trivial⟩, by rfl⟩) | (refine ⟨[.xchg 2 7], ?_⟩; (conv => whnf); exact ⟨.refl, ⟨.refl, .refl, .refl, trivial⟩, by rfl⟩) | fail
    · have h2 : decide (s.phase = 2) = false := decide_eq_false (by have := of_decide_eq_true h1; omega)
      simp only [hC, h1, h, Bool.and_true, Bool.and_false, Bool.not_true, Bool.not_false, cond_true, cond_false, List.nil_append, List.append_nil, List.cons_append] at hR
      subst hR
      first | (refine ⟨[], ?_⟩; (conv => whnf); exact ⟨.refl, ⟨.refl, .refl, .refl, trivial⟩, by rfl⟩) | (refine ⟨[.xchg 2 3], ?_⟩; (conv => whnf); exact ⟨.refl, ⟨.refl, .refl, .refl, trivial⟩, by rfl⟩) | (refine ⟨[.xchg 2 4], ?_⟩; (conv => whnf); exact ⟨.refl, ⟨.refl, .refl, .refl, trivial⟩, by rfl⟩) | (refine ⟨[.xchg 2 5], ?_⟩; (conv => whnf); exact ⟨.refl, ⟨.refl, .refl, .refl, trivial⟩, by rfl⟩) | (refine ⟨[.xchg 2 6], ?_⟩; (conv => whnf); exact ⟨.refl, ⟨.refl, .refl, .refl, trivial⟩, by rfl⟩) | (refine ⟨[.xchg 2 7], ?_⟩; (conv => whnf); exact ⟨.refl, ⟨.refl, .refl, .refl, trivial⟩, by rfl⟩) | fail
  · rename_i hC h1
    have h2 := h
    clear h
    repeat' ((conv => whnf); first | refine And.intro (fun h => h) ?_ | refine dcond_t (by assumption) ?_ | refine dcond_f (by assumption) ?_ | (refine dcond_intro ?_ ?_ <;> intro h) | exact .refl | refine And.intro (by kernel_rfl) ?_ | refine And.intro ⟨fun h => h, fun h => h⟩ ?_ | refine .inl ⟨_, _, DleAll_refl _, e2, ?_⟩ | refine ⟨_, _, DleAll_refl _, fun _ => e2, ?_⟩ | refine ⟨_, _, DleAll_refl _, e2, ?_⟩ | refine .inr ⟨[0], _, _, _, _, _, q1, by rfl, ⟨.refl, trivial⟩, ⟨.refl, .refl, .refl, .refl, .refl, .refl, trivial⟩, ?_⟩ | refine Exists.intro false ?_ | (refine And.intro ?_ ?_; focus (simp; done)) | fail)
    all_goals (conv => whnf)
    · rw [h2] at h
      simp at h
    · simp only [hC, h1, h2, h, Bool.and_true, Bool.and_false, Bool.not_true, Bool.not_false, cond_true, cond_false, List.nil_append, List.append_nil, List.cons_append] at hR
      subst hR
      first | (refine ⟨[], ?_⟩; (conv => whnf); exact ⟨.refl, ⟨.refl, .refl, .refl, trivial⟩, by rfl⟩) | (refine ⟨[.xchg 2 3], ?_⟩; (conv => whnf); exact ⟨.refl, ⟨.refl, .refl, .refl, trivial⟩, by rfl⟩) | (refine ⟨[.xchg 2 4], ?_⟩; (conv => whnf); exact ⟨.refl, ⟨.refl, .refl, .refl, trivial⟩, by rfl⟩) | (refine ⟨[.xchg 2 5], ?_⟩; (conv => whnf); exact ⟨.refl, ⟨.refl, .refl, .refl, trivial⟩, by rfl⟩) | (refine ⟨[.xchg 2 6], ?_⟩; (conv => whnf); exact ⟨.refl, ⟨.refl, .refl, .refl, trivial⟩, by rfl⟩) | (refine ⟨[.xchg 2 7], ?_⟩; (conv => whnf); exact ⟨.refl, ⟨.refl, .refl, .refl, trivial⟩, by rfl⟩) | fail
  · rename_i hC h1 h2
    have h0K : decide (0 ≤ K) = true := ((Bool.and_eq_true ..).mp h).1
    have hKe := hK0 h0K
    have hge := hget h0K
    repeat' ((conv => whnf); first | refine And.intro (fun h => h) ?_ | refine dcond_t (by assumption) ?_ | refine dcond_f (by assumption) ?_ | (refine dcond_intro ?_ ?_ <;> intro h) | exact .refl | refine And.intro (by kernel_rfl) ?_ | refine And.intro ⟨fun h => h, fun h => h⟩ ?_ | refine ⟨K.toNat, rptE D, And.intro ⟨hKe, hge⟩ ?_⟩ | refine .inr ⟨[0], _, _, _, _, _, a1, by rfl, ⟨.refl, trivial⟩, ⟨.refl, .refl, .refl, .refl, .refl, .refl, trivial⟩, ?_⟩ | refine Exists.intro false ?_ | (refine And.intro ?_ ?_; focus (simp; done)) | fail)
    all_goals (conv => whnf)
    simp only [hC, h1, h2, h0K, Bool.and_true, Bool.and_false, Bool.not_true, Bool.not_false, cond_true, cond_false, List.nil_append, List.append_nil, List.cons_append] at hR
    subst hR
    first | (refine ⟨[], ?_⟩; (conv => whnf); exact ⟨.refl, ⟨.refl, .refl, .refl, trivial⟩, by rfl⟩) | (refine ⟨[.xchg 2 3], ?_⟩; (conv => whnf); exact ⟨.refl, ⟨.refl, .refl, .refl, trivial⟩, by rfl⟩) | (refine ⟨[.xchg 2 4], ?_⟩; (conv => whnf); exact ⟨.refl, ⟨.refl, .refl, .refl, trivial⟩, by rfl⟩) | (refine ⟨[.xchg 2 5], ?_⟩; (conv => whnf); exact ⟨.refl, ⟨.refl, .refl, .refl, trivial⟩, by rfl⟩) | (refine ⟨[.xchg 2 6], ?_⟩; (conv => whnf); exact ⟨.refl, ⟨.refl, .refl, .refl, trivial⟩, by rfl⟩) | (refine ⟨[.xchg 2 7], ?_⟩; (conv => whnf); exact ⟨.refl, ⟨.refl, .refl, .refl, trivial⟩, by rfl⟩) | fail
  · rename_i hC h1 h2
    have h0 : decide (0 ≤ K) = false := by
      rw [h2] at h
      simpa using h
    simp only [hC, h1, h2, h0, Bool.false_and, Bool.and_true, Bool.and_false, Bool.not_true, Bool.not_false, cond_true, cond_false, List.nil_append, List.append_nil, List.cons_append] at hR
    subst hR
    first | (refine ⟨[.cell 0 15 48 7], ?_⟩; (conv => whnf); exact ⟨.refl, ⟨.refl, .refl, .refl, trivial⟩, by rfl⟩) | (refine ⟨[.cell 0 15 48 7, .xchg 2 3], ?_⟩; (conv => whnf); exact ⟨.refl, ⟨.refl, .refl, .refl, trivial⟩, by rfl⟩) | (refine ⟨[.cell 0 15 48 7, .xchg 2 4], ?_⟩; (conv => whnf); exact ⟨.refl, ⟨.refl, .refl, .refl, trivial⟩, by rfl⟩) | (refine ⟨[.cell 0 15 48 7, .xchg 2 5], ?_⟩; (conv => whnf); exact ⟨.refl, ⟨.refl, .refl, .refl, trivial⟩, by rfl⟩) | (refine ⟨[.cell 0 15 48 7, .xchg 2 6], ?_⟩; (conv => whnf); exact ⟨.refl, ⟨.refl, .refl, .refl, trivial⟩, by rfl⟩) | (refine ⟨[.cell 0 15 48 7, .xchg 2 7], ?_⟩; (conv => whnf); exact ⟨.refl, ⟨.refl, .refl, .refl, trivial⟩, by rfl⟩) | fail
theorem rsd_ps (s : Agr) : (rsdA s).length ≤ 100 := by
  have h1 : (sndV s).length ≤ 1 := by unfold sndV; cases (cutOf s.box s.self).2 <;> simp
  have h2 : (sndP s).length ≤ 1 := by unfold sndP; cases decide (s.phase = 1) <;> cases decide (s.phase = 2) <;> simp
  have h3 : (sndA s).length ≤ 1 := by unfold sndA; cases decide (0 ≤ ofB s.accs s.self) && !decide (s.phase = 2) <;> simp
  unfold rsdA
  simp only [List.length_append]
  omega
end Go.Proofs.Ytmbniilpgbjcfaa

set_option maxRecDepth 100000
namespace Go.Proofs.Ytmbniilpgbjcfaa
open Go.Lift
set_option maxHeartbeats 8000000 in
theorem c_Receive_prep (s : Agr) (hs : SmA s) (m : Msg) (hc : m.cut.length ≤ 1000) (h1 : agrB s = true) (h2 : m.view = s.view.num) (h3 : vmB s.view m = true) (h4 : m.src ≠ s.self) (h5 : s.dec = []) (h6 : m.kind = 2) :
    Ret Try.prog 17 [.agg (agrE s), .agg (msgE m)] (.tup [.agg (agrE (endA (prepA s m).1 (prepA s m).2).1), .lst 7 ((endA (prepA s m).1 (prepA s m).2).2.map pktE) false, i64 0]) := by
  have hv := hs.mem
  have e12 := c_agreement_Valid s hs
  have e14 := c_agreement_ValidMessage s.view (by omega) m (by omega)
  have e58 := c_agreement_cloneState s hs
  have hvb := (agr_view h1).1
  obtain ⟨hrp, hap, _, _⟩ := agr_reps h1
  have hr16 := reps_16 hrp
  have ha16 := reps_16 hap
  have e3 := m_prepare s hs m
  have mend := m_end_own _ (sm_prep hs m) (prepA s m).2 (prepA_ps s m)
  generalize endA (prepA s m).1 (prepA s m).2 = E at *
  generalize (prepA s m) = X at *
  rw [h1] at e12
  rw [h3] at e14
  have h4' : decide (m.src = s.self) = false := decide_eq_false h4
  have h2' : decide (m.view = s.view.num) = true := decide_eq_true h2
  have h5' : decide (0 < ((s.dec.map intE).length : Int)) = false := by rw [h5]; rfl
  have h6a : decide (m.kind = 1) = false := decide_eq_false (by omega)
  have h6b : decide (m.kind = 2) = true := decide_eq_true h6
  refine ret_of_body (fn := Try.f17) (c := Try.f17.body.getD .skip) hm hT (by kernel_rfl) Try.func17 (by kernel_rfl) (by kernel_rfl) (by kernel_rfl) (by kernel_rfl) ?_
  repeat' ((conv => whnf); first | refine And.intro (fun h => h) ?_ | refine dcond_t (by assumption) ?_ | refine dcond_f (by assumption) ?_ | (refine dcond_intro ?_ ?_ <;> intro h) | exact .refl | refine And.intro (by kernel_rfl) ?_ | refine And.intro ⟨fun h => h, fun h => h⟩ ?_ | refine .inl ⟨_, _, DleAll_refl _, e12, ?_⟩ | refine ⟨_, _, DleAll_refl _, fun _ => e12, ?_⟩ | refine ⟨_, _, DleAll_refl _, e12, ?_⟩ | refine .inl ⟨_, _, DleAll_refl _, e14, ?_⟩ | refine ⟨_, _, DleAll_refl _, fun _ => e14, ?_⟩ | refine ⟨_, _, DleAll_refl _, e14, ?_⟩ | refine .inl ⟨_, _, DleAll_refl _, e58, ?_⟩ | refine .inr ⟨[3], _, _, _, _, _, e3, by rfl, ⟨.refl, trivial⟩, ⟨.refl, .refl, trivial⟩, ?_⟩ | refine .inr ⟨[4], _, _, _, _, _, e3, by rfl, ⟨.refl, trivial⟩, ⟨.refl, .refl, trivial⟩, ?_⟩ | refine .inr ⟨[3, 4], _, _, _, _, _, mend, by rfl, ⟨.refl, .refl, trivial⟩, ⟨.refl, trivial⟩, ?_⟩ | refine .inr ⟨[3, 5], _, _, _, _, _, mend, by rfl, ⟨.refl, .refl, trivial⟩, ⟨.refl, trivial⟩, ?_⟩ | refine .inr ⟨[3, 6], _, _, _, _, _, mend, by rfl, ⟨.refl, .refl, trivial⟩, ⟨.refl, trivial⟩, ?_⟩ | refine .inr ⟨[3, 7], _, _, _, _, _, mend, by rfl, ⟨.refl, .refl, trivial⟩, ⟨.refl, trivial⟩, ?_⟩ | refine .inr ⟨[3, 8], _, _, _, _, _, mend, by rfl, ⟨.refl, .refl, trivial⟩, ⟨.refl, trivial⟩, ?_⟩ | refine .inr ⟨[3, 9], _, _, _, _, _, mend, by rfl, ⟨.refl, .refl, trivial⟩, ⟨.refl, trivial⟩, ?_⟩ | refine .inr ⟨[4, 4], _, _, _, _, _, mend, by rfl, ⟨.refl, .refl, trivial⟩, ⟨.refl, trivial⟩, ?_⟩ | refine .inr ⟨[4, 5], _, _, _, _, _, mend, by rfl, ⟨.refl, .refl, trivial⟩, ⟨.refl, trivial⟩, ?_⟩ | refine .inr ⟨[4, 6], _, _, _, _, _, mend, by rfl, ⟨.refl, .refl, trivial⟩, ⟨.refl, trivial⟩, ?_⟩ | refine .inr ⟨[4, 7], _, _, _, _, _, mend, by rfl, ⟨.refl, .refl, trivial⟩, ⟨.refl, trivial⟩, ?_⟩ | refine .inr ⟨[4, 8], _, _, _, _, _, mend, by rfl, ⟨.refl, .refl, trivial⟩, ⟨.refl, trivial⟩, ?_⟩ | refine .inr ⟨[4, 9], _, _, _, _, _, mend, by rfl, ⟨.refl, .refl, trivial⟩, ⟨.refl, trivial⟩, ?_⟩ | refine Exists.intro false ?_ | (refine And.intro ?_ ?_; focus (simp; done)) | fail)
  all_goals (conv => whnf)
  rw [h2'] at h
  cases h
set_option maxHeartbeats 8000000 in
theorem c_Receive_prom (s : Agr) (hs : SmA s) (m : Msg) (hc : m.cut.length ≤ 1000) (h1 : agrB s = true) (h2 : m.view = s.view.num) (h3 : vmB s.view m = true) (h4 : m.src ≠ s.self) (h5 : s.dec = []) (h6 : m.kind = 3) :
    Ret Try.prog 17 [.agg (agrE s), .agg (msgE m)] (.tup [.agg (agrE (endA (promA s m).1 (promA s m).2).1), .lst 7 ((endA (promA s m).1 (promA s m).2).2.map pktE) false, i64 0]) := by
  have hv := hs.mem
  have e12 := c_agreement_Valid s hs
  have e14 := c_agreement_ValidMessage s.view (by omega) m (by omega)
  have e58 := sq_cloneState s hs
  have hvb := (agr_view h1).1
  obtain ⟨hrp, hap, _, _⟩ := agr_reps h1
  have hr16 := reps_16 hrp
  have ha16 := reps_16 hap
  have e3 := m_promise s hs hap (by omega) m hc
  have mend := m_end_own _ (sm_prom hs (by omega) (by omega) hc) (promA s m).2 (promA_ps s m)
  generalize endA (promA s m).1 (promA s m).2 = E at *
  generalize (promA s m) = X at *
  rw [h1] at e12
  rw [h3] at e14
  have h4' : decide (m.src = s.self) = false := decide_eq_false h4
  have h2' : decide (m.view = s.view.num) = true := decide_eq_true h2
  have h5' : decide (0 < ((s.dec.map intE).length : Int)) = false := by rw [h5]; rfl
  have h6a : decide (m.kind = 1) = false := decide_eq_false (by omega)
  have h6b : decide (m.kind = 2) = false := decide_eq_false (by omega)
  have h6c : decide (m.kind = 3) = true := decide_eq_true h6
  refine ret_of_body (fn := Try.f17) (c := Try.f17.body.getD .skip) hm hT (by kernel_rfl) Try.func17 (by kernel_rfl) (by kernel_rfl) (by kernel_rfl) (by kernel_rfl) ?_
  repeat' ((conv => whnf); first | refine And.intro (fun h => h) ?_ | refine dcond_t (by assumption) ?_ | refine dcond_f (by assumption) ?_ | (refine dcond_intro ?_ ?_ <;> intro h) | exact .refl | refine And.intro (by kernel_rfl) ?_ | refine And.intro ⟨fun h => h, fun h => h⟩ ?_ | refine .inl ⟨_, _, DleAll_refl _, e12, ?_⟩ | refine ⟨_, _, DleAll_refl _, fun _ => e12, ?_⟩ | refine ⟨_, _, DleAll_refl _, e12, ?_⟩ | refine .inl ⟨_, _, DleAll_refl _, e14, ?_⟩ | refine ⟨_, _, DleAll_refl _, fun _ => e14, ?_⟩ | refine ⟨_, _, DleAll_refl _, e14, ?_⟩ | refine .inr ⟨[], [], _, [], _, _, e58, by rfl, trivial, ⟨.refl, trivial⟩, ?_⟩ | refine .inr ⟨[3, 2], _, _, _, _, _, e3, by rfl, ⟨.refl, .refl, trivial⟩, ⟨.refl, .refl, trivial⟩, ?_⟩ | refine .inr ⟨[3, 3], _, _, _, _, _, e3, by rfl, ⟨.refl, .refl, trivial⟩, ⟨.refl, .refl, trivial⟩, ?_⟩ | refine .inr ⟨[3, 4], _, _, _, _, _, e3, by rfl, ⟨.refl, .refl, trivial⟩, ⟨.refl, .refl, trivial⟩, ?_⟩ | refine .inr ⟨[4, 2], _, _, _, _, _, e3, by rfl, ⟨.refl, .refl, trivial⟩, ⟨.refl, .refl, trivial⟩, ?_⟩ | refine .inr ⟨[4, 3], _, _, _, _, _, e3, by rfl, ⟨.refl, .refl, trivial⟩, ⟨.refl, .refl, trivial⟩, ?_⟩ | refine .inr ⟨[4, 4], _, _, _, _, _, e3, by rfl, ⟨.refl, .refl, trivial⟩, ⟨.refl, .refl, trivial⟩, ?_⟩ | refine .inr ⟨[3, 4], _, _, _, _, _, mend, by rfl, ⟨.refl, .refl, trivial⟩, ⟨.refl, trivial⟩, ?_⟩ | refine .inr ⟨[3, 5], _, _, _, _, _, mend, by rfl, ⟨.refl, .refl, trivial⟩, ⟨.refl, trivial⟩, ?_⟩ | refine .inr ⟨[3, 6], _, _, _, _, _, mend, by rfl, ⟨.refl, .refl, trivial⟩, ⟨.refl, trivial⟩, ?_⟩ | refine .inr ⟨[3, 7], _, _, _, _, _, mend, by rfl, ⟨.refl, .refl, trivial⟩, ⟨.refl, trivial⟩, ?_⟩ | refine .inr ⟨[3, 8], _, _, _, _, _, mend, by rfl, ⟨.refl, .refl, trivial⟩, ⟨.refl, trivial⟩, ?_⟩ | refine .inr ⟨[3, 9], _, _, _, _, _, mend, by rfl, ⟨.refl, .refl, trivial⟩, ⟨.refl, trivial⟩, ?_⟩ | refine .inr ⟨[4, 4], _, _, _, _, _, mend, by rfl, ⟨.refl, .refl, trivial⟩, ⟨.refl, trivial⟩, ?_⟩ | refine .inr ⟨[4, 5], _, _, _, _, _, mend, by rfl, ⟨.refl, .refl, trivial⟩, ⟨.refl, trivial⟩, ?_⟩ | refine .inr ⟨[4, 6], _, _, _, _, _, mend, by rfl, ⟨.refl, .refl, trivial⟩, ⟨.refl, trivial⟩, ?_⟩ | refine .inr ⟨[4, 7], _, _, _, _, _, mend, by rfl, ⟨.refl, .refl, trivial⟩, ⟨.refl, trivial⟩, ?_⟩ | refine .inr ⟨[4, 8], _, _, _, _, _, mend, by rfl, ⟨.refl, .refl, trivial⟩, ⟨.refl, trivial⟩, ?_⟩ | refine .inr ⟨[4, 9], _, _, _, _, _, mend, by rfl, ⟨.refl, .refl, trivial⟩, ⟨.refl, trivial⟩, ?_⟩ | refine Exists.intro false ?_ | (refine And.intro ?_ ?_; focus (simp; done)) | fail)
  all_goals (conv => whnf)
  rw [h2'] at h
  cases h
set_option maxHeartbeats 8000000 in
theorem c_Receive_acct (s : Agr) (hs : SmA s) (m : Msg) (hc : m.cut.length ≤ 1000) (h1 : agrB s = true) (h2 : m.view = s.view.num) (h3 : vmB s.view m = true) (h4 : m.src ≠ s.self) (h5 : s.dec = []) (h6 : m.kind = 4) :
    Ret Try.prog 17 [.agg (agrE s), .agg (msgE m)] (.tup [.agg (agrE (endA (acctA s m).1 (acctA s m).2).1), .lst 7 ((endA (acctA s m).1 (acctA s m).2).2.map pktE) false, i64 0]) := by
  have hv := hs.mem
  have e12 := c_agreement_Valid s hs
  have e14 := c_agreement_ValidMessage s.view (by omega) m (by omega)
  have e58 := sq_cloneState s hs
  have hvb := (agr_view h1).1
  obtain ⟨hrp, hap, _, _⟩ := agr_reps h1
  have hr16 := reps_16 hrp
  have ha16 := reps_16 hap
  have e3 := m_accept s hs hvb hap (by omega) m hc (vm_rpt h3 (.inl h6))
  have mend := m_end_own _ (sm_acct hs (by omega) hc) (acctA s m).2 (acctA_ps s m)
  generalize endA (acctA s m).1 (acctA s m).2 = E at *
  generalize (acctA s m) = X at *
  rw [h1] at e12
  rw [h3] at e14
  have h4' : decide (m.src = s.self) = false := decide_eq_false h4
  have h2' : decide (m.view = s.view.num) = true := decide_eq_true h2
  have h5' : decide (0 < ((s.dec.map intE).length : Int)) = false := by rw [h5]; rfl
  have h6a : decide (m.kind = 1) = false := decide_eq_false (by omega)
  have h6b : decide (m.kind = 2) = false := decide_eq_false (by omega)
  have h6c : decide (m.kind = 3) = false := decide_eq_false (by omega)
  have h6d : decide (m.kind = 4) = true := decide_eq_true h6
  refine ret_of_body (fn := Try.f17) (c := Try.f17.body.getD .skip) hm hT (by kernel_rfl) Try.func17 (by kernel_rfl) (by kernel_rfl) (by kernel_rfl) (by kernel_rfl) ?_
  repeat' ((conv => whnf); first | refine And.intro (fun h => h) ?_ | refine dcond_t (by assumption) ?_ | refine dcond_f (by assumption) ?_ | (refine dcond_intro ?_ ?_ <;> intro h) | exact .refl | refine And.intro (by kernel_rfl) ?_ | refine And.intro ⟨fun h => h, fun h => h⟩ ?_ | refine .inl ⟨_, _, DleAll_refl _, e12, ?_⟩ | refine ⟨_, _, DleAll_refl _, fun _ => e12, ?_⟩ | refine ⟨_, _, DleAll_refl _, e12, ?_⟩ | refine .inl ⟨_, _, DleAll_refl _, e14, ?_⟩ | refine ⟨_, _, DleAll_refl _, fun _ => e14, ?_⟩ | refine ⟨_, _, DleAll_refl _, e14, ?_⟩ | refine .inr ⟨[], [], _, [], _, _, e58, by rfl, trivial, ⟨.refl, trivial⟩, ?_⟩ | refine .inr ⟨[3, 2], _, _, _, _, _, e3, by rfl, ⟨.refl, .refl, trivial⟩, ⟨.refl, .refl, trivial⟩, ?_⟩ | refine .inr ⟨[3, 3], _, _, _, _, _, e3, by rfl, ⟨.refl, .refl, trivial⟩, ⟨.refl, .refl, trivial⟩, ?_⟩ | refine .inr ⟨[3, 4], _, _, _, _, _, e3, by rfl, ⟨.refl, .refl, trivial⟩, ⟨.refl, .refl, trivial⟩, ?_⟩ | refine .inr ⟨[4, 2], _, _, _, _, _, e3, by rfl, ⟨.refl, .refl, trivial⟩, ⟨.refl, .refl, trivial⟩, ?_⟩ | refine .inr ⟨[4, 3], _, _, _, _, _, e3, by rfl, ⟨.refl, .refl, trivial⟩, ⟨.refl, .refl, trivial⟩, ?_⟩ | refine .inr ⟨[4, 4], _, _, _, _, _, e3, by rfl, ⟨.refl, .refl, trivial⟩, ⟨.refl, .refl, trivial⟩, ?_⟩ | refine .inr ⟨[3, 4], _, _, _, _, _, mend, by rfl, ⟨.refl, .refl, trivial⟩, ⟨.refl, trivial⟩, ?_⟩ | refine .inr ⟨[3, 5], _, _, _, _, _, mend, by rfl, ⟨.refl, .refl, trivial⟩, ⟨.refl, trivial⟩, ?_⟩ | refine .inr ⟨[3, 6], _, _, _, _, _, mend, by rfl, ⟨.refl, .refl, trivial⟩, ⟨.refl, trivial⟩, ?_⟩ | refine .inr ⟨[3, 7], _, _, _, _, _, mend, by rfl, ⟨.refl, .refl, trivial⟩, ⟨.refl, trivial⟩, ?_⟩ | refine .inr ⟨[3, 8], _, _, _, _, _, mend, by rfl, ⟨.refl, .refl, trivial⟩, ⟨.refl, trivial⟩, ?_⟩ | refine .inr ⟨[3, 9], _, _, _, _, _, mend, by rfl, ⟨.refl, .refl, trivial⟩, ⟨.refl, trivial⟩, ?_⟩ | refine .inr ⟨[4, 4], _, _, _, _, _, mend, by rfl, ⟨.refl, .refl, trivial⟩, ⟨.refl, trivial⟩, ?_⟩ | refine .inr ⟨[4, 5], _, _, _, _, _, mend, by rfl, ⟨.refl, .refl, trivial⟩, ⟨.refl, trivial⟩, ?_⟩ | refine .inr ⟨[4, 6], _, _, _, _, _, mend, by rfl, ⟨.refl, .refl, trivial⟩, ⟨.refl, trivial⟩, ?_⟩ | refine .inr ⟨[4, 7], _, _, _, _, _, mend, by rfl, ⟨.refl, .refl, trivial⟩, ⟨.refl, trivial⟩, ?_⟩ | refine .inr ⟨[4, 8], _, _, _, _, _, mend, by rfl, ⟨.refl, .refl, trivial⟩, ⟨.refl, trivial⟩, ?_⟩ | refine .inr ⟨[4, 9], _, _, _, _, _, mend, by rfl, ⟨.refl, .refl, trivial⟩, ⟨.refl, trivial⟩, ?_⟩ | refine Exists.intro false ?_ | (refine And.intro ?_ ?_; focus (simp; done)) | fail)
  all_goals (conv => whnf)
  rw [h2'] at h
  cases h
end Go.Proofs.Ytmbniilpgbjcfaa

set_option maxRecDepth 100000
namespace Go.Proofs.Ytmbniilpgbjcfaa
open Go.Lift
set_option maxHeartbeats 8000000 in
theorem c_Receive_accd (s : Agr) (hs : SmA s) (m : Msg) (hc : m.cut.length ≤ 1000) (h1 : agrB s = true) (h2 : m.view = s.view.num) (h3 : vmB s.view m = true) (h4 : m.src ≠ s.self) (h5 : s.dec = []) (h6 : m.kind = 5) :
    Ret Try.prog 17 [.agg (agrE s), .agg (msgE m)] (.tup [.agg (agrE (endA (({ s with accs := enterR s.view s.accs ⟨m.src, m.rank, m.cut⟩ }, ([] : List Pkt))).1 (({ s with accs := enterR s.view s.accs ⟨m.src, m.rank, m.cut⟩ }, ([] : List Pkt))).2).1), .lst 7 ((endA (({ s with accs := enterR s.view s.accs ⟨m.src, m.rank, m.cut⟩ }, ([] : List Pkt))).1 (({ s with accs := enterR s.view s.accs ⟨m.src, m.rank, m.cut⟩ }, ([] : List Pkt))).2).2.map pktE) false, i64 0]) := by
  have hv := hs.mem
  have e12 := c_agreement_Valid s hs
  have e14 := c_agreement_ValidMessage s.view (by omega) m (by omega)
  have e58 := sq_cloneState s hs
  have hvb := (agr_view h1).1
  obtain ⟨hrp, hap, _, _⟩ := agr_reps h1
  have hr16 := reps_16 hrp
  have ha16 := reps_16 hap
  have e3 := m_enterS s hs hap ⟨m.src, m.rank, m.cut⟩ hc
  have mend := m_end_nil _ (sm_accs (r := ⟨m.src, m.rank, m.cut⟩) hs hc (by omega))
  generalize endA ({ s with accs := enterR s.view s.accs ⟨m.src, m.rank, m.cut⟩ }, ([] : List Pkt)).1 ({ s with accs := enterR s.view s.accs ⟨m.src, m.rank, m.cut⟩ }, ([] : List Pkt)).2 = E at *
  rw [h1] at e12
  rw [h3] at e14
  have h4' : decide (m.src = s.self) = false := decide_eq_false h4
  have h2' : decide (m.view = s.view.num) = true := decide_eq_true h2
  have h5' : decide (0 < ((s.dec.map intE).length : Int)) = false := by rw [h5]; rfl
  have h6a : decide (m.kind = 1) = false := decide_eq_false (by omega)
  have h6b : decide (m.kind = 2) = false := decide_eq_false (by omega)
  have h6c : decide (m.kind = 3) = false := decide_eq_false (by omega)
  have h6d : decide (m.kind = 4) = false := decide_eq_false (by omega)
  have h6e : decide (m.kind = 5) = true := decide_eq_true h6
  refine ret_of_body (fn := Try.f17) (c := Try.f17.body.getD .skip) hm hT (by kernel_rfl) Try.func17 (by kernel_rfl) (by kernel_rfl) (by kernel_rfl) (by kernel_rfl) ?_
  repeat' ((conv => whnf); first | refine And.intro (fun h => h) ?_ | refine dcond_t (by assumption) ?_ | refine dcond_f (by assumption) ?_ | (refine dcond_intro ?_ ?_ <;> intro h) | exact .refl | refine And.intro (by kernel_rfl) ?_ | refine And.intro ⟨fun h => h, fun h => h⟩ ?_ | refine .inl ⟨_, _, DleAll_refl _, e12, ?_⟩ | refine ⟨_, _, DleAll_refl _, fun _ => e12, ?_⟩ | refine ⟨_, _, DleAll_refl _, e12, ?_⟩ | refine .inl ⟨_, _, DleAll_refl _, e14, ?_⟩ | refine ⟨_, _, DleAll_refl _, fun _ => e14, ?_⟩ | refine ⟨_, _, DleAll_refl _, e14, ?_⟩ | refine .inr ⟨[], [], _, [], _, _, e58, by rfl, trivial, ⟨.refl, trivial⟩, ?_⟩ | refine .inr ⟨[3, 2], _, _, _, _, _, e3, by rfl, ⟨.refl, .refl, trivial⟩, ⟨.refl, .refl, trivial⟩, ?_⟩ | refine .inr ⟨[3, 3], _, _, _, _, _, e3, by rfl, ⟨.refl, .refl, trivial⟩, ⟨.refl, .refl, trivial⟩, ?_⟩ | refine .inr ⟨[3, 4], _, _, _, _, _, e3, by rfl, ⟨.refl, .refl, trivial⟩, ⟨.refl, .refl, trivial⟩, ?_⟩ | refine .inr ⟨[4, 2], _, _, _, _, _, e3, by rfl, ⟨.refl, .refl, trivial⟩, ⟨.refl, .refl, trivial⟩, ?_⟩ | refine .inr ⟨[4, 3], _, _, _, _, _, e3, by rfl, ⟨.refl, .refl, trivial⟩, ⟨.refl, .refl, trivial⟩, ?_⟩ | refine .inr ⟨[4, 4], _, _, _, _, _, e3, by rfl, ⟨.refl, .refl, trivial⟩, ⟨.refl, .refl, trivial⟩, ?_⟩ | refine .inr ⟨[3], _, _, _, _, _, mend, by rfl, ⟨.refl, trivial⟩, ⟨.refl, trivial⟩, ?_⟩ | refine .inr ⟨[4], _, _, _, _, _, mend, by rfl, ⟨.refl, trivial⟩, ⟨.refl, trivial⟩, ?_⟩ | refine Exists.intro false ?_ | (refine And.intro ?_ ?_; focus (simp; done)) | fail)
  all_goals (conv => whnf)
  rw [h2'] at h
  cases h
set_option maxHeartbeats 8000000 in
theorem c_Receive_deci (s : Agr) (hs : SmA s) (m : Msg) (hc : m.cut.length ≤ 1000) (h1 : agrB s = true) (h2 : m.view = s.view.num) (h3 : vmB s.view m = true) (h4 : m.src ≠ s.self) (h5 : s.dec = []) (h6 : m.kind = 6) :
    Ret Try.prog 17 [.agg (agrE s), .agg (msgE m)] (.tup [.agg (agrE (endA (({ s with dec := m.cut }, [pktOf s 0 6 0 0 m.cut])).1 (({ s with dec := m.cut }, [pktOf s 0 6 0 0 m.cut])).2).1), .lst 7 ((endA (({ s with dec := m.cut }, [pktOf s 0 6 0 0 m.cut])).1 (({ s with dec := m.cut }, [pktOf s 0 6 0 0 m.cut])).2).2.map pktE) false, i64 0]) := by
  have hv := hs.mem
  have e12 := c_agreement_Valid s hs
  have e14 := c_agreement_ValidMessage s.view (by omega) m (by omega)
  have e58 := c_agreement_cloneState s hs
  have hvb := (agr_view h1).1
  obtain ⟨hrp, hap, _, _⟩ := agr_reps h1
  have hr16 := reps_16 hrp
  have ha16 := reps_16 hap
  have hs2 : SmA { s with dec := m.cut } := ⟨hs.mem, hs.acut, hs.prop, hs.box, hs.boxc, hs.reps, hs.repc, hs.cho, hs.accs, hs.accc, hc⟩
  have e3 := m_send_sq { s with dec := m.cut } 0 6 0 0 m.cut (by omega)
  have mend := m_end_own _ hs2 [pktOf s 0 6 0 0 m.cut] (by simp)
  generalize endA ({ s with dec := m.cut }, [pktOf s 0 6 0 0 m.cut]).1 ({ s with dec := m.cut }, [pktOf s 0 6 0 0 m.cut]).2 = E at *
  rw [h1] at e12
  rw [h3] at e14
  have h4' : decide (m.src = s.self) = false := decide_eq_false h4
  have h2' : decide (m.view = s.view.num) = true := decide_eq_true h2
  have h5' : decide (0 < ((s.dec.map intE).length : Int)) = false := by rw [h5]; rfl
  have h6a : decide (m.kind = 1) = false := decide_eq_false (by omega)
  have h6b : decide (m.kind = 2) = false := decide_eq_false (by omega)
  have h6c : decide (m.kind = 3) = false := decide_eq_false (by omega)
  have h6d : decide (m.kind = 4) = false := decide_eq_false (by omega)
  have h6e : decide (m.kind = 5) = false := decide_eq_false (by omega)
  have h6f : decide (m.kind = 6) = true := decide_eq_true h6
  refine ret_of_body (fn := Try.f17) (c := Try.f17.body.getD .skip) hm hT (by kernel_rfl) Try.func17 (by kernel_rfl) (by kernel_rfl) (by kernel_rfl) (by kernel_rfl) ?_
  repeat' ((conv => whnf); first | refine And.intro (fun h => h) ?_ | refine dcond_t (by assumption) ?_ | refine dcond_f (by assumption) ?_ | (refine dcond_intro ?_ ?_ <;> intro h) | exact .refl | refine And.intro (by kernel_rfl) ?_ | refine And.intro ⟨fun h => h, fun h => h⟩ ?_ | refine .inl ⟨_, _, DleAll_refl _, e12, ?_⟩ | refine ⟨_, _, DleAll_refl _, fun _ => e12, ?_⟩ | refine ⟨_, _, DleAll_refl _, e12, ?_⟩ | refine .inl ⟨_, _, DleAll_refl _, e14, ?_⟩ | refine ⟨_, _, DleAll_refl _, fun _ => e14, ?_⟩ | refine ⟨_, _, DleAll_refl _, e14, ?_⟩ | refine .inl ⟨_, _, DleAll_refl _, e58, ?_⟩ | refine .inl ⟨_, _, DleAll_refl _, c_agreement_clone _ (by omega), ?_⟩ | refine ⟨_, _, DleAll_refl _, fun _ => c_agreement_clone _ (by omega), ?_⟩ | refine ⟨_, _, DleAll_refl _, c_agreement_clone _ (by omega), ?_⟩ | refine .inr ⟨[3], _, _, _, _, _, e3, by rfl, ⟨.refl, trivial⟩, ⟨.refl, .refl, .refl, .refl, .refl, .refl, trivial⟩, ?_⟩ | refine .inr ⟨[4], _, _, _, _, _, e3, by rfl, ⟨.refl, trivial⟩, ⟨.refl, .refl, .refl, .refl, .refl, .refl, trivial⟩, ?_⟩ | refine .inr ⟨[3, 4], _, _, _, _, _, mend, by rfl, ⟨.refl, .refl, trivial⟩, ⟨.refl, trivial⟩, ?_⟩ | refine .inr ⟨[3, 5], _, _, _, _, _, mend, by rfl, ⟨.refl, .refl, trivial⟩, ⟨.refl, trivial⟩, ?_⟩ | refine .inr ⟨[3, 6], _, _, _, _, _, mend, by rfl, ⟨.refl, .refl, trivial⟩, ⟨.refl, trivial⟩, ?_⟩ | refine .inr ⟨[3, 7], _, _, _, _, _, mend, by rfl, ⟨.refl, .refl, trivial⟩, ⟨.refl, trivial⟩, ?_⟩ | refine .inr ⟨[3, 8], _, _, _, _, _, mend, by rfl, ⟨.refl, .refl, trivial⟩, ⟨.refl, trivial⟩, ?_⟩ | refine .inr ⟨[3, 9], _, _, _, _, _, mend, by rfl, ⟨.refl, .refl, trivial⟩, ⟨.refl, trivial⟩, ?_⟩ | refine .inr ⟨[4, 4], _, _, _, _, _, mend, by rfl, ⟨.refl, .refl, trivial⟩, ⟨.refl, trivial⟩, ?_⟩ | refine .inr ⟨[4, 5], _, _, _, _, _, mend, by rfl, ⟨.refl, .refl, trivial⟩, ⟨.refl, trivial⟩, ?_⟩ | refine .inr ⟨[4, 6], _, _, _, _, _, mend, by rfl, ⟨.refl, .refl, trivial⟩, ⟨.refl, trivial⟩, ?_⟩ | refine .inr ⟨[4, 7], _, _, _, _, _, mend, by rfl, ⟨.refl, .refl, trivial⟩, ⟨.refl, trivial⟩, ?_⟩ | refine .inr ⟨[4, 8], _, _, _, _, _, mend, by rfl, ⟨.refl, .refl, trivial⟩, ⟨.refl, trivial⟩, ?_⟩ | refine .inr ⟨[4, 9], _, _, _, _, _, mend, by rfl, ⟨.refl, .refl, trivial⟩, ⟨.refl, trivial⟩, ?_⟩ | refine Exists.intro false ?_ | (refine And.intro ?_ ?_; focus (simp; done)) | fail)
  all_goals (conv => whnf)
  rw [h2'] at h
  cases h
end Go.Proofs.Ytmbniilpgbjcfaa

set_option maxRecDepth 100000
namespace Go.Proofs.Ytmbniilpgbjcfaa
open Go.Lift
theorem agr0_le : dle (.agg [i64 0, i64 0, .nl, i64 0, i64 0, .nl, .nl, .nl, i64 0, i64 0, .nl, .nl, .nl, .nl, i64 0]) (.agg (agrE agr0)) :=
  dle_aggA ⟨.refl, .refl, .nl, .refl, .refl, .nl, .nl, .nl, .refl, .refl, .nl, .nl, .nl, .nl, .refl, trivial⟩
set_option maxHeartbeats 8000000 in
theorem c_Receive_inv (s : Agr) (hs : SmA s) (m : Msg) (hc : m.cut.length ≤ 1000) (h1 : agrB s = false) : Ret Try.prog 17 [.agg (agrE s), .agg (msgE m)] (.tup [.agg (agrE agr0), .lst 7 (([] : List Pkt).map pktE) false, i64 1]) := by
  have e12 := c_agreement_Valid s hs
  rw [h1] at e12
  refine ret_of_body (fn := Try.f17) (c := Try.f17.body.getD .skip) hm hT (by kernel_rfl) Try.func17 (by kernel_rfl) (by kernel_rfl) (by kernel_rfl) (by kernel_rfl) ?_
  repeat' ((conv => whnf); first | refine And.intro (fun h => h) ?_ | refine dcond_t (by assumption) ?_ | refine dcond_f (by assumption) ?_ | (refine dcond_intro ?_ ?_ <;> intro h) | exact .refl | refine And.intro (by kernel_rfl) ?_ | refine And.intro ⟨fun h => h, fun h => h⟩ ?_ | refine .inl ⟨_, _, DleAll_refl _, e12, ?_⟩ | refine ⟨_, _, DleAll_refl _, fun _ => e12, ?_⟩ | refine ⟨_, _, DleAll_refl _, e12, ?_⟩ | refine Exists.intro false ?_ | (refine And.intro ?_ ?_; focus (simp; done)) | fail)
  all_goals (conv => whnf)
  all_goals exact dle_tupA ⟨agr0_le, .nl, .refl, trivial⟩
set_option maxHeartbeats 8000000 in
theorem c_Receive_old (s : Agr) (hs : SmA s) (m : Msg) (hc : m.cut.length ≤ 1000) (h1 : agrB s = true) (h2 : decide (m.view = s.view.num) = false) : Ret Try.prog 17 [.agg (agrE s), .agg (msgE m)] (.tup [.agg (agrE agr0), .lst 7 (([] : List Pkt).map pktE) false, i64 8]) := by
  have e12 := c_agreement_Valid s hs
  rw [h1] at e12
  refine ret_of_body (fn := Try.f17) (c := Try.f17.body.getD .skip) hm hT (by kernel_rfl) Try.func17 (by kernel_rfl) (by kernel_rfl) (by kernel_rfl) (by kernel_rfl) ?_
  repeat' ((conv => whnf); first | refine And.intro (fun h => h) ?_ | refine dcond_t (by assumption) ?_ | refine dcond_f (by assumption) ?_ | (refine dcond_intro ?_ ?_ <;> intro h) | exact .refl | refine And.intro (by kernel_rfl) ?_ | refine And.intro ⟨fun h => h, fun h => h⟩ ?_ | refine .inl ⟨_, _, DleAll_refl _, e12, ?_⟩ | refine ⟨_, _, DleAll_refl _, fun _ => e12, ?_⟩ | refine ⟨_, _, DleAll_refl _, e12, ?_⟩ | refine Exists.intro false ?_ | (refine And.intro ?_ ?_; focus (simp; done)) | fail)
  all_goals (conv => whnf)
  · exact dle_tupA ⟨agr0_le, .nl, .refl, trivial⟩
  all_goals
    rw [h2] at h
    cases h
set_option maxHeartbeats 8000000 in
theorem c_Receive_bad (s : Agr) (hs : SmA s) (m : Msg) (hc : m.cut.length ≤ 1000) (h1 : agrB s = true) (h2 : decide (m.view = s.view.num) = true) (h3 : (!vmB s.view m || decide (m.src = s.self)) = true) : Ret Try.prog 17 [.agg (agrE s), .agg (msgE m)] (.tup [.agg (agrE agr0), .lst 7 (([] : List Pkt).map pktE) false, i64 1]) := by
  have hv := hs.mem
  have e12 := c_agreement_Valid s hs
  have e14 := c_agreement_ValidMessage s.view (by omega) m (by omega)
  rw [h1] at e12
  generalize vmB s.view m = V at *
  refine ret_of_body (fn := Try.f17) (c := Try.f17.body.getD .skip) hm hT (by kernel_rfl) Try.func17 (by kernel_rfl) (by kernel_rfl) (by kernel_rfl) (by kernel_rfl) ?_
  repeat' ((conv => whnf); first | refine And.intro (fun h => h) ?_ | refine dcond_t (by assumption) ?_ | refine dcond_f (by assumption) ?_ | (refine dcond_intro ?_ ?_ <;> intro h) | exact .refl | refine And.intro (by kernel_rfl) ?_ | refine And.intro ⟨fun h => h, fun h => h⟩ ?_ | refine .inl ⟨_, _, DleAll_refl _, e12, ?_⟩ | refine ⟨_, _, DleAll_refl _, fun _ => e12, ?_⟩ | refine ⟨_, _, DleAll_refl _, e12, ?_⟩ | refine .inl ⟨_, _, DleAll_refl _, e14, ?_⟩ | refine ⟨_, _, DleAll_refl _, fun _ => e14, ?_⟩ | refine ⟨_, _, DleAll_refl _, e14, ?_⟩ | refine Exists.intro false ?_ | (refine And.intro ?_ ?_; focus (simp; done)) | fail)
  all_goals (conv => whnf)
  · rw [h2] at h
    cases h
  · exact dle_tupA ⟨agr0_le, .nl, .refl, trivial⟩
set_option maxHeartbeats 8000000 in
theorem c_Receive_dec (s : Agr) (hs : SmA s) (m : Msg) (hc : m.cut.length ≤ 1000) (h1 : agrB s = true) (h2 : decide (m.view = s.view.num) = true) (h3 : (!vmB s.view m || decide (m.src = s.self)) = false) (h5 : decide (0 < (s.dec.length : Int)) = true) : Ret Try.prog 17 [.agg (agrE s), .agg (msgE m)] (.tup [.agg (agrE s), .lst 7 ((bif decide (m.kind = 6) then [] else [pktOf s m.src 6 0 0 s.dec]).map pktE) false, i64 0]) := by
  have hv := hs.mem
  have hd := hs.dec
  have e12 := c_agreement_Valid s hs
  have e14 := c_agreement_ValidMessage s.view (by omega) m (by omega)
  have e58 := c_agreement_cloneState s hs
  have e3 := m_send_sq s m.src 6 0 0 s.dec (by omega)
  rw [h1] at e12
  generalize vmB s.view m = V at *
  have h5' : decide (0 < ((s.dec.map intE).length : Int)) = true := by rw [List.length_map]; exact h5
  refine ret_of_body (fn := Try.f17) (c := Try.f17.body.getD .skip) hm hT (by kernel_rfl) Try.func17 (by kernel_rfl) (by kernel_rfl) (by kernel_rfl) (by kernel_rfl) ?_
  repeat' ((conv => whnf); first | refine And.intro (fun h => h) ?_ | refine dcond_t (by assumption) ?_ | refine dcond_f (by assumption) ?_ | (refine dcond_intro ?_ ?_ <;> intro h) | exact .refl | refine And.intro (by kernel_rfl) ?_ | refine And.intro ⟨fun h => h, fun h => h⟩ ?_ | refine .inl ⟨_, _, DleAll_refl _, e12, ?_⟩ | refine ⟨_, _, DleAll_refl _, fun _ => e12, ?_⟩ | refine ⟨_, _, DleAll_refl _, e12, ?_⟩ | refine .inl ⟨_, _, DleAll_refl _, e14, ?_⟩ | refine ⟨_, _, DleAll_refl _, fun _ => e14, ?_⟩ | refine ⟨_, _, DleAll_refl _, e14, ?_⟩ | refine .inl ⟨_, _, DleAll_refl _, e58, ?_⟩ | refine ⟨_, _, DleAll_refl _, fun _ => e58, ?_⟩ | refine ⟨_, _, DleAll_refl _, e58, ?_⟩ | refine .inr ⟨[3], _, _, _, _, _, e3, by rfl, ⟨.refl, trivial⟩, ⟨.refl, .refl, .refl, .refl, .refl, .refl, trivial⟩, ?_⟩ | refine .inr ⟨[4], _, _, _, _, _, e3, by rfl, ⟨.refl, trivial⟩, ⟨.refl, .refl, .refl, .refl, .refl, .refl, trivial⟩, ?_⟩ | refine Exists.intro false ?_ | (refine And.intro ?_ ?_; focus (simp; done)) | fail)
  all_goals (conv => whnf)
  · rw [h2] at h
    cases h
  · rw [show decide (m.kind = 6) = false by simpa using h]
    exact .refl
  · rw [show decide (m.kind = 6) = true by simpa using h]
    exact dle_tupA ⟨.refl, .nl, .refl, trivial⟩
def actA (s : Agr) (m : Msg) : Agr × List Pkt :=
  if m.kind = 1 then (voteA s m, [])
  else if m.kind = 2 then prepA s m
  else if m.kind = 3 then promA s m
  else if m.kind = 4 then acctA s m
  else if m.kind = 5 then ({ s with accs := enterR s.view s.accs ⟨m.src, m.rank, m.cut⟩ }, [])
  else ({ s with dec := m.cut }, [pktOf s 0 6 0 0 m.cut])
def recA (s : Agr) (m : Msg) : Agr × List Pkt × Int :=
  if agrB s = false then (agr0, [], 1)
  else if decide (m.view = s.view.num) = false then (agr0, [], 8)
  else if (!vmB s.view m || decide (m.src = s.self)) = true then (agr0, [], 1)
  else if decide (0 < (s.dec.length : Int)) = true then (s, (bif decide (m.kind = 6) then [] else [pktOf s m.src 6 0 0 s.dec]), 0)
  else ((endA (actA s m).1 (actA s m).2).1, (endA (actA s m).1 (actA s m).2).2, 0)
theorem vm_kind {v : View} {m : Msg} (h : vmB v m = true) : m.kind = 1 ∨ m.kind = 2 ∨ m.kind = 3 ∨ m.kind = 4 ∨ m.kind = 5 ∨ m.kind = 6 := by
  unfold vmB at h
  by_cases h1 : m.kind = 1
  · exact .inl h1
  by_cases h2 : m.kind = 2
  · exact .inr (.inl h2)
  by_cases h3 : m.kind = 3
  · exact .inr (.inr (.inl h3))
  by_cases h4 : m.kind = 4
  · exact .inr (.inr (.inr (.inl h4)))
  by_cases h5 : m.kind = 5
  · exact .inr (.inr (.inr (.inr (.inl h5))))
  by_cases h6 : m.kind = 6
  · exact .inr (.inr (.inr (.inr (.inr h6))))
  exfalso
  simp only [h1, h2, h3, h4, h5, h6, decide_false, Bool.or_self, cond_false] at h
  cases hx : !viewB v || !inB v.mem m.src || !decide (m.view = v.num) <;> rw [hx] at h <;> cases h
theorem c_agreement_Receive (s : Agr) (hs : SmA s) (m : Msg) (hc : m.cut.length ≤ 1000) :
    Ret Try.prog 17 [.agg (agrE s), .agg (msgE m)] (.tup [.agg (agrE (recA s m).1), .lst 7 ((recA s m).2.1.map pktE) false, i64 (recA s m).2.2]) := by
  unfold recA
  by_cases h1 : agrB s = false
  · rw [if_pos h1]
    exact c_Receive_inv s hs m hc h1
  rw [if_neg h1]
  have h1 : agrB s = true := by simpa using h1
  by_cases h2 : decide (m.view = s.view.num) = false
  · rw [if_pos h2]
    exact c_Receive_old s hs m hc h1 h2
  rw [if_neg h2]
  have h2 : decide (m.view = s.view.num) = true := by simpa using h2
  by_cases h3 : (!vmB s.view m || decide (m.src = s.self)) = true
  · rw [if_pos h3]
    exact c_Receive_bad s hs m hc h1 h2 h3
  rw [if_neg h3]
  have h3 : (!vmB s.view m || decide (m.src = s.self)) = false := by simpa using h3
  by_cases h5 : decide (0 < (s.dec.length : Int)) = true
  · rw [if_pos h5]
    exact c_Receive_dec s hs m hc h1 h2 h3 h5
  rw [if_neg h5]
  have h5' : s.dec = [] := by
    have : s.dec.length = 0 := by
      simp at h5
      rw [h5]
      rfl
    exact List.length_eq_zero_iff.1 this
  have h2' := of_decide_eq_true h2
  simp only [Bool.or_eq_false_iff, Bool.not_eq_false', decide_eq_false_iff_not] at h3
  unfold actA
  rcases vm_kind h3.1 with hk | hk | hk | hk | hk | hk
  · rw [if_pos hk]
    exact c_Receive_vote s hs m hc h1 h2' h3.1 h3.2 h5' hk
  · rw [if_neg (by omega), if_pos hk]
    exact c_Receive_prep s hs m hc h1 h2' h3.1 h3.2 h5' hk
  · rw [if_neg (by omega), if_neg (by omega), if_pos hk]
    exact c_Receive_prom s hs m hc h1 h2' h3.1 h3.2 h5' hk
  · rw [if_neg (by omega), if_neg (by omega), if_neg (by omega), if_pos hk]
    exact c_Receive_acct s hs m hc h1 h2' h3.1 h3.2 h5' hk
  · rw [if_neg (by omega), if_neg (by omega), if_neg (by omega), if_neg (by omega), if_pos hk]
    exact c_Receive_accd s hs m hc h1 h2' h3.1 h3.2 h5' hk
  · rw [if_neg (by omega), if_neg (by omega), if_neg (by omega), if_neg (by omega), if_neg (by omega)]
    exact c_Receive_deci s hs m hc h1 h2' h3.1 h3.2 h5' hk
end Go.Proofs.Ytmbniilpgbjcfaa

set_option maxRecDepth 100000
namespace Go.Proofs.Ytmbniilpgbjcfaa
open Go.Lift
def waitA (s : Agr) : Int := if 1099511627776 < IntKind.i64.wrap (s.wait + 1) then 1099511627776 else IntKind.i64.wrap (s.wait + 1)
def dueB (s : Agr) : Bool := decide (IntKind.i64.wrap (8 + IntKind.i64.wrap (6 * placeB s.view.mem s.self)) ≤ waitA s)
def stepA (s : Agr) : Agr :=
  if decide (0 < (s.prop.length : Int)) = true then (if dueB s = true then attA { s with wait := waitA s } else { s with wait := waitA s }) else s
set_option maxHeartbeats 8000000 in
theorem c_Tick_inv (s : Agr) (hs : SmA s) (h1 : agrB s = false) : Ret Try.prog 18 [.agg (agrE s)] (.tup [.agg (agrE agr0), .lst 7 (([] : List Pkt).map pktE) false]) := by
  have e12 := c_agreement_Valid s hs
  rw [h1] at e12
  refine ret_of_body (fn := Try.f18) (c := Try.f18.body.getD .skip) hm hT (by kernel_rfl) Try.func18 (by kernel_rfl) (by kernel_rfl) (by kernel_rfl) (by kernel_rfl) ?_
  repeat' ((conv => whnf); first | refine And.intro (fun h => h) ?_ | refine dcond_t (by assumption) ?_ | refine dcond_f (by assumption) ?_ | (refine dcond_intro ?_ ?_ <;> intro h) | exact .refl | refine And.intro (by kernel_rfl) ?_ | refine And.intro ⟨fun h => h, fun h => h⟩ ?_ | refine .inl ⟨_, _, DleAll_refl _, e12, ?_⟩ | refine ⟨_, _, DleAll_refl _, fun _ => e12, ?_⟩ | refine ⟨_, _, DleAll_refl _, e12, ?_⟩ | refine Exists.intro false ?_ | (refine And.intro ?_ ?_; focus (simp; done)) | fail)
  all_goals (conv => whnf)
  all_goals exact dle_tupA ⟨agr0_le, .nl, trivial⟩
set_option maxHeartbeats 8000000 in
theorem c_Tick_dec (s : Agr) (hs : SmA s) (h1 : agrB s = true) (h5 : decide (0 < (s.dec.length : Int)) = true) : Ret Try.prog 18 [.agg (agrE s)] (.tup [.agg (agrE s), .lst 7 ([pktOf s 0 6 0 0 s.dec].map pktE) false]) := by
  have hd := hs.dec
  have e12 := c_agreement_Valid s hs
  have e58 := c_agreement_cloneState s hs
  have e3 := m_send_sq s 0 6 0 0 s.dec (by omega)
  rw [h1] at e12
  have h5' : decide (0 < ((s.dec.map intE).length : Int)) = true := by rw [List.length_map]; exact h5
  refine ret_of_body (fn := Try.f18) (c := Try.f18.body.getD .skip) hm hT (by kernel_rfl) Try.func18 (by kernel_rfl) (by kernel_rfl) (by kernel_rfl) (by kernel_rfl) ?_
  repeat' ((conv => whnf); first | refine And.intro (fun h => h) ?_ | refine dcond_t (by assumption) ?_ | refine dcond_f (by assumption) ?_ | (refine dcond_intro ?_ ?_ <;> intro h) | exact .refl | refine And.intro (by kernel_rfl) ?_ | refine And.intro ⟨fun h => h, fun h => h⟩ ?_ | refine .inl ⟨_, _, DleAll_refl _, e12, ?_⟩ | refine ⟨_, _, DleAll_refl _, fun _ => e12, ?_⟩ | refine ⟨_, _, DleAll_refl _, e12, ?_⟩ | refine .inl ⟨_, _, DleAll_refl _, e58, ?_⟩ | refine ⟨_, _, DleAll_refl _, fun _ => e58, ?_⟩ | refine ⟨_, _, DleAll_refl _, e58, ?_⟩ | refine .inr ⟨[2], _, _, _, _, _, e3, by rfl, ⟨.refl, trivial⟩, ⟨.refl, .refl, .refl, .refl, .refl, .refl, trivial⟩, ?_⟩ | refine .inr ⟨[3], _, _, _, _, _, e3, by rfl, ⟨.refl, trivial⟩, ⟨.refl, .refl, .refl, .refl, .refl, .refl, trivial⟩, ?_⟩ | refine .inr ⟨[4], _, _, _, _, _, e3, by rfl, ⟨.refl, trivial⟩, ⟨.refl, .refl, .refl, .refl, .refl, .refl, trivial⟩, ?_⟩ | refine Exists.intro false ?_ | (refine And.intro ?_ ?_; focus (simp; done)) | fail)
set_option maxHeartbeats 8000000 in
theorem c_Tick_idle (s : Agr) (hs : SmA s) (h1 : agrB s = true) (h5 : s.dec = []) (h6 : decide (0 < (s.prop.length : Int)) = false) : Ret Try.prog 18 [.agg (agrE s)] (.tup [.agg (agrE (endA s (rsdA s)).1), .lst 7 ((endA s (rsdA s)).2.map pktE) false]) := by
  have e12 := c_agreement_Valid s hs
  have e58 := c_agreement_cloneState s hs
  have e3 := m_resend s hs
  have mend := m_end_own s hs (rsdA s) (rsd_ps s)
  generalize endA s (rsdA s) = E at *
  rw [h1] at e12
  have h5' : decide (0 < ((s.dec.map intE).length : Int)) = false := by rw [h5]; rfl
  have h6' : decide (0 < ((s.prop.map intE).length : Int)) = false := by rw [List.length_map]; exact h6
  refine ret_of_body (fn := Try.f18) (c := Try.f18.body.getD .skip) hm hT (by kernel_rfl) Try.func18 (by kernel_rfl) (by kernel_rfl) (by kernel_rfl) (by kernel_rfl) ?_
  repeat' ((conv => whnf); first | refine And.intro (fun h => h) ?_ | refine dcond_t (by assumption) ?_ | refine dcond_f (by assumption) ?_ | (refine dcond_intro ?_ ?_ <;> intro h) | exact .refl | refine And.intro (by kernel_rfl) ?_ | refine And.intro ⟨fun h => h, fun h => h⟩ ?_ | refine .inl ⟨_, _, DleAll_refl _, e12, ?_⟩ | refine ⟨_, _, DleAll_refl _, fun _ => e12, ?_⟩ | refine ⟨_, _, DleAll_refl _, e12, ?_⟩ | refine .inl ⟨_, _, DleAll_refl _, e58, ?_⟩ | refine ⟨_, _, DleAll_refl _, fun _ => e58, ?_⟩ | refine ⟨_, _, DleAll_refl _, e58, ?_⟩ | refine .inr ⟨[2], _, _, _, _, _, e3, by rfl, ⟨.refl, trivial⟩, ⟨.refl, trivial⟩, ?_⟩ | refine .inr ⟨[3], _, _, _, _, _, e3, by rfl, ⟨.refl, trivial⟩, ⟨.refl, trivial⟩, ?_⟩ | refine .inr ⟨[4], _, _, _, _, _, e3, by rfl, ⟨.refl, trivial⟩, ⟨.refl, trivial⟩, ?_⟩ | refine .inr ⟨[2, 3], _, _, _, _, _, mend, by rfl, ⟨.refl, .refl, trivial⟩, ⟨.refl, trivial⟩, ?_⟩ | refine .inr ⟨[2, 4], _, _, _, _, _, mend, by rfl, ⟨.refl, .refl, trivial⟩, ⟨.refl, trivial⟩, ?_⟩ | refine .inr ⟨[2, 5], _, _, _, _, _, mend, by rfl, ⟨.refl, .refl, trivial⟩, ⟨.refl, trivial⟩, ?_⟩ | refine .inr ⟨[2, 6], _, _, _, _, _, mend, by rfl, ⟨.refl, .refl, trivial⟩, ⟨.refl, trivial⟩, ?_⟩ | refine .inr ⟨[2, 7], _, _, _, _, _, mend, by rfl, ⟨.refl, .refl, trivial⟩, ⟨.refl, trivial⟩, ?_⟩ | refine .inr ⟨[2, 8], _, _, _, _, _, mend, by rfl, ⟨.refl, .refl, trivial⟩, ⟨.refl, trivial⟩, ?_⟩ | refine .inr ⟨[2, 9], _, _, _, _, _, mend, by rfl, ⟨.refl, .refl, trivial⟩, ⟨.refl, trivial⟩, ?_⟩ | refine .inr ⟨[3, 3], _, _, _, _, _, mend, by rfl, ⟨.refl, .refl, trivial⟩, ⟨.refl, trivial⟩, ?_⟩ | refine .inr ⟨[3, 4], _, _, _, _, _, mend, by rfl, ⟨.refl, .refl, trivial⟩, ⟨.refl, trivial⟩, ?_⟩ | refine .inr ⟨[3, 5], _, _, _, _, _, mend, by rfl, ⟨.refl, .refl, trivial⟩, ⟨.refl, trivial⟩, ?_⟩ | refine .inr ⟨[3, 6], _, _, _, _, _, mend, by rfl, ⟨.refl, .refl, trivial⟩, ⟨.refl, trivial⟩, ?_⟩ | refine .inr ⟨[3, 7], _, _, _, _, _, mend, by rfl, ⟨.refl, .refl, trivial⟩, ⟨.refl, trivial⟩, ?_⟩ | refine .inr ⟨[3, 8], _, _, _, _, _, mend, by rfl, ⟨.refl, .refl, trivial⟩, ⟨.refl, trivial⟩, ?_⟩ | refine .inr ⟨[3, 9], _, _, _, _, _, mend, by rfl, ⟨.refl, .refl, trivial⟩, ⟨.refl, trivial⟩, ?_⟩ | refine .inr ⟨[4, 3], _, _, _, _, _, mend, by rfl, ⟨.refl, .refl, trivial⟩, ⟨.refl, trivial⟩, ?_⟩ | refine .inr ⟨[4, 4], _, _, _, _, _, mend, by rfl, ⟨.refl, .refl, trivial⟩, ⟨.refl, trivial⟩, ?_⟩ | refine .inr ⟨[4, 5], _, _, _, _, _, mend, by rfl, ⟨.refl, .refl, trivial⟩, ⟨.refl, trivial⟩, ?_⟩ | refine .inr ⟨[4, 6], _, _, _, _, _, mend, by rfl, ⟨.refl, .refl, trivial⟩, ⟨.refl, trivial⟩, ?_⟩ | refine .inr ⟨[4, 7], _, _, _, _, _, mend, by rfl, ⟨.refl, .refl, trivial⟩, ⟨.refl, trivial⟩, ?_⟩ | refine .inr ⟨[4, 8], _, _, _, _, _, mend, by rfl, ⟨.refl, .refl, trivial⟩, ⟨.refl, trivial⟩, ?_⟩ | refine .inr ⟨[4, 9], _, _, _, _, _, mend, by rfl, ⟨.refl, .refl, trivial⟩, ⟨.refl, trivial⟩, ?_⟩ | refine Exists.intro false ?_ | (refine And.intro ?_ ?_; focus (simp; done)) | fail)
set_option maxHeartbeats 8000000 in
theorem c_Tick_wait (s : Agr) (hs : SmA s) (h1 : agrB s = true) (h5 : s.dec = []) (h6 : decide (0 < (s.prop.length : Int)) = true) (h7 : dueB s = false) : Ret Try.prog 18 [.agg (agrE s)] (.tup [.agg (agrE (endA { s with wait := waitA s } (rsdA s)).1), .lst 7 ((endA { s with wait := waitA s } (rsdA s)).2.map pktE) false]) := by
  have hv := hs.mem
  have hs2 : SmA { s with wait := waitA s } := ⟨hs.mem, hs.acut, hs.prop, hs.box, hs.boxc, hs.reps, hs.repc, hs.cho, hs.accs, hs.accc, hs.dec⟩
  have e12 := c_agreement_Valid s hs
  have e58 := c_agreement_cloneState s hs
  have e3 := m_resend _ hs2
  have mend := m_end_own _ hs2 (rsdA s) (rsd_ps s)
  have ep := c_view_Place s.view.mem (mx hv) s.self
  have hw : waitA s = if 1099511627776 < IntKind.i64.wrap (s.wait + 1) then 1099511627776 else IntKind.i64.wrap (s.wait + 1) := rfl
  have hd : dueB s = decide (IntKind.i64.wrap (8 + IntKind.i64.wrap (6 * placeB s.view.mem s.self)) ≤ waitA s) := rfl
  generalize endA { s with wait := waitA s } (rsdA s) = E at *
  rw [h1] at e12
  have h5' : decide (0 < ((s.dec.map intE).length : Int)) = false := by rw [h5]; rfl
  have h6' : decide (0 < ((s.prop.map intE).length : Int)) = true := by rw [List.length_map]; exact h6
  refine ret_of_body (fn := Try.f18) (c := Try.f18.body.getD .skip) hm hT (by kernel_rfl) Try.func18 (by kernel_rfl) (by kernel_rfl) (by kernel_rfl) (by kernel_rfl) ?_
  repeat' ((conv => whnf); first | refine And.intro (fun h => h) ?_ | refine dcond_t (by assumption) ?_ | refine dcond_f (by assumption) ?_ | (refine dcond_intro ?_ ?_ <;> intro h) | exact .refl | refine And.intro (by kernel_rfl) ?_ | refine And.intro ⟨fun h => h, fun h => h⟩ ?_ | refine .inl ⟨_, _, DleAll_refl _, e12, ?_⟩ | refine ⟨_, _, DleAll_refl _, fun _ => e12, ?_⟩ | refine ⟨_, _, DleAll_refl _, e12, ?_⟩ | refine .inl ⟨_, _, DleAll_refl _, e58, ?_⟩ | refine ⟨_, _, DleAll_refl _, fun _ => e58, ?_⟩ | refine ⟨_, _, DleAll_refl _, e58, ?_⟩ | refine .inl ⟨_, _, DleAll_refl _, ep, ?_⟩ | refine ⟨_, _, DleAll_refl _, fun _ => ep, ?_⟩ | refine ⟨_, _, DleAll_refl _, ep, ?_⟩ | refine .inr ⟨[2], _, _, _, _, _, e3, by rfl, ⟨.refl, trivial⟩, ⟨.refl, trivial⟩, ?_⟩ | refine .inr ⟨[3], _, _, _, _, _, e3, by rfl, ⟨.refl, trivial⟩, ⟨.refl, trivial⟩, ?_⟩ | refine .inr ⟨[4], _, _, _, _, _, e3, by rfl, ⟨.refl, trivial⟩, ⟨.refl, trivial⟩, ?_⟩ | refine .inr ⟨[2, 3], _, _, _, _, _, mend, by rfl, ⟨.refl, .refl, trivial⟩, ⟨.refl, trivial⟩, ?_⟩ | refine .inr ⟨[2, 4], _, _, _, _, _, mend, by rfl, ⟨.refl, .refl, trivial⟩, ⟨.refl, trivial⟩, ?_⟩ | refine .inr ⟨[2, 5], _, _, _, _, _, mend, by rfl, ⟨.refl, .refl, trivial⟩, ⟨.refl, trivial⟩, ?_⟩ | refine .inr ⟨[2, 6], _, _, _, _, _, mend, by rfl, ⟨.refl, .refl, trivial⟩, ⟨.refl, trivial⟩, ?_⟩ | refine .inr ⟨[2, 7], _, _, _, _, _, mend, by rfl, ⟨.refl, .refl, trivial⟩, ⟨.refl, trivial⟩, ?_⟩ | refine .inr ⟨[2, 8], _, _, _, _, _, mend, by rfl, ⟨.refl, .refl, trivial⟩, ⟨.refl, trivial⟩, ?_⟩ | refine .inr ⟨[2, 9], _, _, _, _, _, mend, by rfl, ⟨.refl, .refl, trivial⟩, ⟨.refl, trivial⟩, ?_⟩ | refine .inr ⟨[3, 3], _, _, _, _, _, mend, by rfl, ⟨.refl, .refl, trivial⟩, ⟨.refl, trivial⟩, ?_⟩ | refine .inr ⟨[3, 4], _, _, _, _, _, mend, by rfl, ⟨.refl, .refl, trivial⟩, ⟨.refl, trivial⟩, ?_⟩ | refine .inr ⟨[3, 5], _, _, _, _, _, mend, by rfl, ⟨.refl, .refl, trivial⟩, ⟨.refl, trivial⟩, ?_⟩ | refine .inr ⟨[3, 6], _, _, _, _, _, mend, by rfl, ⟨.refl, .refl, trivial⟩, ⟨.refl, trivial⟩, ?_⟩ | refine .inr ⟨[3, 7], _, _, _, _, _, mend, by rfl, ⟨.refl, .refl, trivial⟩, ⟨.refl, trivial⟩, ?_⟩ | refine .inr ⟨[3, 8], _, _, _, _, _, mend, by rfl, ⟨.refl, .refl, trivial⟩, ⟨.refl, trivial⟩, ?_⟩ | refine .inr ⟨[3, 9], _, _, _, _, _, mend, by rfl, ⟨.refl, .refl, trivial⟩, ⟨.refl, trivial⟩, ?_⟩ | refine .inr ⟨[4, 3], _, _, _, _, _, mend, by rfl, ⟨.refl, .refl, trivial⟩, ⟨.refl, trivial⟩, ?_⟩ | refine .inr ⟨[4, 4], _, _, _, _, _, mend, by rfl, ⟨.refl, .refl, trivial⟩, ⟨.refl, trivial⟩, ?_⟩ | refine .inr ⟨[4, 5], _, _, _, _, _, mend, by rfl, ⟨.refl, .refl, trivial⟩, ⟨.refl, trivial⟩, ?_⟩ | refine .inr ⟨[4, 6], _, _, _, _, _, mend, by rfl, ⟨.refl, .refl, trivial⟩, ⟨.refl, trivial⟩, ?_⟩ | refine .inr ⟨[4, 7], _, _, _, _, _, mend, by rfl, ⟨.refl, .refl, trivial⟩, ⟨.refl, trivial⟩, ?_⟩ | refine .inr ⟨[4, 8], _, _, _, _, _, mend, by rfl, ⟨.refl, .refl, trivial⟩, ⟨.refl, trivial⟩, ?_⟩ | refine .inr ⟨[4, 9], _, _, _, _, _, mend, by rfl, ⟨.refl, .refl, trivial⟩, ⟨.refl, trivial⟩, ?_⟩ | refine Exists.intro false ?_ | (refine And.intro ?_ ?_; focus (simp; done)) | fail)
theorem sm_att {s : Agr} (hs : SmA s) (hl : s.accs.length ≤ 900) : SmA (attA s) := by
  have hpl := prep_len (rank := attRank s) hs.acut
  unfold attA
  cases decide (attRank s = 0)
  · cases (prepR s.acc (attRank s)).2.2
    · exact hs
    · exact sm_adv ⟨hs.mem, hpl.1, hs.prop, hs.box, hs.boxc, (by simp), (fun b hb => by
        rcases List.mem_singleton.1 hb with rfl
        exact hpl.2), Nat.zero_le _, hs.accs, hs.accc, hs.dec⟩ hl
  · exact hs
set_option maxHeartbeats 8000000 in
theorem c_Tick_act (s : Agr) (hs : SmA s) (h1 : agrB s = true) (h5 : s.dec = []) (h6 : decide (0 < (s.prop.length : Int)) = true) (h7 : dueB s = true) : Ret Try.prog 18 [.agg (agrE s)] (.tup [.agg (agrE (endA (attA { s with wait := waitA s }) (rsdA (attA { s with wait := waitA s }))).1), .lst 7 ((endA (attA { s with wait := waitA s }) (rsdA (attA { s with wait := waitA s }))).2.map pktE) false]) := by
  have hv := hs.mem
  have hs2 : SmA { s with wait := waitA s } := ⟨hs.mem, hs.acut, hs.prop, hs.box, hs.boxc, hs.reps, hs.repc, hs.cho, hs.accs, hs.accc, hs.dec⟩
  obtain ⟨_, hap, _, _⟩ := agr_reps h1
  have ha16 := reps_16 hap
  have e12 := c_agreement_Valid s hs
  have e58 := sq_cloneState s hs
  have e2 := m_attempt _ hs2 hap
  have hs3 := sm_att hs2 (by simp only []; omega)
  have ep := c_view_Place s.view.mem (mx hv) s.self
  have hw : waitA s = if 1099511627776 < IntKind.i64.wrap (s.wait + 1) then 1099511627776 else IntKind.i64.wrap (s.wait + 1) := rfl
  have hd : dueB s = decide (IntKind.i64.wrap (8 + IntKind.i64.wrap (6 * placeB s.view.mem s.self)) ≤ waitA s) := rfl
  generalize attA { s with wait := waitA s } = A at *
  have e3 := m_resend _ hs3
  have mend := m_end_own _ hs3 (rsdA A) (rsd_ps A)
  generalize endA A (rsdA A) = E at *
  rw [h1] at e12
  have h5' : decide (0 < ((s.dec.map intE).length : Int)) = false := by rw [h5]; rfl
  have h6' : decide (0 < ((s.prop.map intE).length : Int)) = true := by rw [List.length_map]; exact h6
  refine ret_of_body (fn := Try.f18) (c := Try.f18.body.getD .skip) hm hT (by kernel_rfl) Try.func18 (by kernel_rfl) (by kernel_rfl) (by kernel_rfl) (by kernel_rfl) ?_
  repeat' ((conv => whnf); first | refine And.intro (fun h => h) ?_ | refine dcond_t (by assumption) ?_ | refine dcond_f (by assumption) ?_ | (refine dcond_intro ?_ ?_ <;> intro h) | exact .refl | refine And.intro (by kernel_rfl) ?_ | refine And.intro ⟨fun h => h, fun h => h⟩ ?_ | refine .inl ⟨_, _, DleAll_refl _, e12, ?_⟩ | refine ⟨_, _, DleAll_refl _, fun _ => e12, ?_⟩ | refine ⟨_, _, DleAll_refl _, e12, ?_⟩ | refine .inr ⟨[], [], _, [], _, _, e58, by rfl, trivial, ⟨.refl, trivial⟩, ?_⟩ | refine .inl ⟨_, _, DleAll_refl _, ep, ?_⟩ | refine ⟨_, _, DleAll_refl _, fun _ => ep, ?_⟩ | refine ⟨_, _, DleAll_refl _, ep, ?_⟩ | refine .inr ⟨[3, 2], _, _, _, _, _, e2, by rfl, ⟨.refl, .refl, trivial⟩, ⟨.refl, trivial⟩, ?_⟩ | refine .inr ⟨[3, 3], _, _, _, _, _, e2, by rfl, ⟨.refl, .refl, trivial⟩, ⟨.refl, trivial⟩, ?_⟩ | refine .inr ⟨[4, 2], _, _, _, _, _, e2, by rfl, ⟨.refl, .refl, trivial⟩, ⟨.refl, trivial⟩, ?_⟩ | refine .inr ⟨[4, 3], _, _, _, _, _, e2, by rfl, ⟨.refl, .refl, trivial⟩, ⟨.refl, trivial⟩, ?_⟩ | refine .inr ⟨[3], _, _, _, _, _, e3, by rfl, ⟨.refl, trivial⟩, ⟨.refl, trivial⟩, ?_⟩ | refine .inr ⟨[4], _, _, _, _, _, e3, by rfl, ⟨.refl, trivial⟩, ⟨.refl, trivial⟩, ?_⟩ | refine .inr ⟨[3, 3], _, _, _, _, _, mend, by rfl, ⟨.refl, .refl, trivial⟩, ⟨.refl, trivial⟩, ?_⟩ | refine .inr ⟨[3, 4], _, _, _, _, _, mend, by rfl, ⟨.refl, .refl, trivial⟩, ⟨.refl, trivial⟩, ?_⟩ | refine .inr ⟨[3, 5], _, _, _, _, _, mend, by rfl, ⟨.refl, .refl, trivial⟩, ⟨.refl, trivial⟩, ?_⟩ | refine .inr ⟨[3, 6], _, _, _, _, _, mend, by rfl, ⟨.refl, .refl, trivial⟩, ⟨.refl, trivial⟩, ?_⟩ | refine .inr ⟨[3, 7], _, _, _, _, _, mend, by rfl, ⟨.refl, .refl, trivial⟩, ⟨.refl, trivial⟩, ?_⟩ | refine .inr ⟨[3, 8], _, _, _, _, _, mend, by rfl, ⟨.refl, .refl, trivial⟩, ⟨.refl, trivial⟩, ?_⟩ | refine .inr ⟨[3, 9], _, _, _, _, _, mend, by rfl, ⟨.refl, .refl, trivial⟩, ⟨.refl, trivial⟩, ?_⟩ | refine .inr ⟨[4, 3], _, _, _, _, _, mend, by rfl, ⟨.refl, .refl, trivial⟩, ⟨.refl, trivial⟩, ?_⟩ | refine .inr ⟨[4, 4], _, _, _, _, _, mend, by rfl, ⟨.refl, .refl, trivial⟩, ⟨.refl, trivial⟩, ?_⟩ | refine .inr ⟨[4, 5], _, _, _, _, _, mend, by rfl, ⟨.refl, .refl, trivial⟩, ⟨.refl, trivial⟩, ?_⟩ | refine .inr ⟨[4, 6], _, _, _, _, _, mend, by rfl, ⟨.refl, .refl, trivial⟩, ⟨.refl, trivial⟩, ?_⟩ | refine .inr ⟨[4, 7], _, _, _, _, _, mend, by rfl, ⟨.refl, .refl, trivial⟩, ⟨.refl, trivial⟩, ?_⟩ | refine .inr ⟨[4, 8], _, _, _, _, _, mend, by rfl, ⟨.refl, .refl, trivial⟩, ⟨.refl, trivial⟩, ?_⟩ | refine .inr ⟨[4, 9], _, _, _, _, _, mend, by rfl, ⟨.refl, .refl, trivial⟩, ⟨.refl, trivial⟩, ?_⟩ | refine Exists.intro false ?_ | (refine And.intro ?_ ?_; focus (simp; done)) | fail)
def tickA (s : Agr) : Agr × List Pkt :=
  if agrB s = false then (agr0, [])
  else if decide (0 < (s.dec.length : Int)) = true then (s, [pktOf s 0 6 0 0 s.dec])
  else endA (stepA s) (rsdA (stepA s))
theorem c_agreement_Tick (s : Agr) (hs : SmA s) : Ret Try.prog 18 [.agg (agrE s)] (.tup [.agg (agrE (tickA s).1), .lst 7 ((tickA s).2.map pktE) false]) := by
  unfold tickA
  by_cases h1 : agrB s = false
  · rw [if_pos h1]
    exact c_Tick_inv s hs h1
  rw [if_neg h1]
  have h1 : agrB s = true := by simpa using h1
  by_cases h5 : decide (0 < (s.dec.length : Int)) = true
  · rw [if_pos h5]
    exact c_Tick_dec s hs h1 h5
  rw [if_neg h5]
  have h5' : s.dec = [] := by
    have : s.dec.length = 0 := by
      simp at h5
      rw [h5]
      rfl
    exact List.length_eq_zero_iff.1 this
  unfold stepA
  by_cases h6 : decide (0 < (s.prop.length : Int)) = true
  · rw [if_pos h6]
    by_cases h7 : dueB s = true
    · rw [if_pos h7]
      exact c_Tick_act s hs h1 h5' h6 h7
    · rw [if_neg h7]
      exact c_Tick_wait s hs h1 h5' h6 (by simpa using h7)
  · rw [if_neg h6]
    exact c_Tick_idle s hs h1 h5' (by simpa using h6)
end Go.Proofs.Ytmbniilpgbjcfaa

set_option maxRecDepth 100000
namespace Go.Proofs.Ytmbniilpgbjcfaa
open Go.Lift
theorem app_ids {v : View} {c : List Int} (h : (nextR v c).2 = 0) : idsB c 32 = true := by
  unfold nextR at h
  cases h1 : (!viewB v || !idsB c 32) with
  | true => rw [h1] at h; simp at h
  | false =>
    simp only [Bool.or_eq_false_iff, Bool.not_eq_false'] at h1
    exact h1.2
theorem ids_ne {c : List Int} {m : Int} (h : idsB c m = true) : c ≠ [] ∧ (c.length : Int) ≤ m := by
  simp only [idsB, Bool.and_eq_true, Bool.not_eq_true', Bool.or_eq_false_iff, decide_eq_false_iff_not] at h
  refine ⟨fun e => ?_, by omega⟩
  subst e
  simp at h
theorem app_ne {v : View} {c : List Int} (h : appB v c = true) : c ≠ [] := (ids_ne (app_ids (of_decide_eq_true h))).1
theorem good_iff {v : View} {c : List Int} : goodB v c = true ↔ c = [] ∨ appB v c = true := by
  unfold goodB
  rw [Bool.or_eq_true, decide_eq_true_eq]
  constructor
  · rintro (h | h)
    · exact .inl (List.length_eq_zero_iff.1 (by omega))
    · exact .inr h
  · rintro (rfl | h)
    · exact .inl rfl
    · exact .inr h
theorem good_app {v : View} {c : List Int} (h : goodB v c = true) (hn : c ≠ []) : appB v c = true := (good_iff.1 h).resolve_left hn
theorem choose_from {v : View} {l : List Rpt} {own : List Int} (h0 : gateB v l own = false) (ho : own ≠ []) : (chooseR v l own).2 = true ∧ ((chooseR v l own).1 = own ∨ ∃ r ∈ l, 0 ≤ r.rank ∧ (chooseR v l own).1 = r.cut) := by
  have hpos := (gate_pos h0).1
  have hlt := hiAt_lt l hpos
  cases h1 : decide (0 < (l.getD (hiAt l l.length) rpt0).rank)
  · cases hf : l.find? (fastQ v l) with
    | none =>
      have hall : ∀ j (hj : j < l.length), fastQ v l l[j] = false := fun j hj => by
        have := List.find?_eq_none.1 hf _ (List.getElem_mem hj)
        simpa using this
      rw [choose_own h0 h1 hall]
      refine ⟨?_, .inl rfl⟩
      cases own with
      | nil => exact absurd rfl ho
      | cons x l => exact decide_eq_true (by simp only [List.length_cons]; omega)
    | some r =>
      obtain ⟨hq, i, hi, he, hall⟩ := List.find?_eq_some_iff_getElem.1 hf
      subst he
      rw [choose_fast h0 h1 hi hq (fun j hj hji => by simpa using hall j hji)]
      refine ⟨rfl, .inr ⟨_, List.getElem_mem hi, ?_, rfl⟩⟩
      simp only [fastQ, Bool.and_eq_true, decide_eq_true_eq] at hq
      omega
  · rw [choose_hi h0 h1]
    have hg : l.getD (hiAt l l.length) rpt0 = l[hiAt l l.length] := by simp [hlt]
    refine ⟨rfl, .inr ⟨_, List.getElem_mem hlt, ?_, by rw [hg]⟩⟩
    rw [hg] at h1
    have := of_decide_eq_true h1
    omega
theorem vote_ok {a : Acc} {c : List Int} (h : accB a = true) (hok : (voteR a c).2 = true) : a.pro = 0 ∧ a.rank = -1 ∧ idsB c 32 = true ∧ (voteR a c).1 = ⟨0, 0, c⟩ := by
  simp only [voteR, h, Bool.not_true, cond_false] at hok ⊢
  cases hc : (!decide (a.pro = 0) || !decide (a.rank = -1) || !idsB c 32) with
  | true => rw [hc] at hok; cases hok
  | false =>
    simp only [Bool.or_eq_false_iff, Bool.not_eq_false', decide_eq_true_eq] at hc
    exact ⟨hc.1.1, hc.1.2, hc.2, rfl⟩
theorem prep_ok {a : Acc} {r : Int} (h : accB a = true) (hok : (prepR a r).2.2 = true) : usableB r = true ∧ a.pro ≤ r ∧ (prepR a r).1 = ⟨r, a.rank, a.cut⟩ ∧ (prepR a r).2.1 = ⟨0, a.rank, a.cut⟩ := by
  simp only [prepR, h, Bool.not_true, cond_false] at hok ⊢
  cases hc : (!usableB r || decide (r < a.pro)) with
  | true => rw [hc] at hok; cases hok
  | false =>
    simp only [Bool.or_eq_false_iff, Bool.not_eq_false', decide_eq_false_iff_not] at hc
    exact ⟨hc.1, by omega, rfl, rfl⟩
theorem accept_ok {a : Acc} {r : Int} {c : List Int} (h : accB a = true) (hok : (acceptR a r c).2 = true) : usableB r = true ∧ a.pro ≤ r ∧ idsB c 32 = true ∧ (acceptR a r c).1 = ⟨r, r, c⟩ ∧ (a.rank = r → a.cut = c) := by
  simp only [acceptR, h, Bool.not_true, cond_false] at hok ⊢
  cases hc : (!usableB r || decide (r < a.pro) || !idsB c 32 || decide (a.rank = r) && !sameI a.cut c) with
  | true => rw [hc] at hok; cases hok
  | false =>
    simp only [Bool.or_eq_false_iff, Bool.not_eq_false', decide_eq_false_iff_not, Bool.and_eq_false_iff] at hc
    refine ⟨hc.1.1.1, by omega, hc.1.2, rfl, fun e => ?_⟩
    rcases hc.2 with h2 | h2
    · exact absurd e h2
    · exact sameI_iff.1 h2
theorem proper_use {v : View} {r : Int} (h : properB v r = true) : usableB r = true ∧ inB v.mem (ownerOf r) = true := by
  simp only [properB, Bool.and_eq_true] at h
  exact h
theorem use_pos {r : Int} (h : usableB r = true) : 1024 < r := owner_low (by simpa [usableB] using h)
structure AW (s : Agr) : Prop where
  v : viewB s.view = true
  self : inB s.view.mem s.self = true
  w0 : 0 ≤ s.wait
  w1 : s.wait ≤ 1099511627776
  acc : accB s.acc = true
  pro : s.acc.pro ≠ 0 → properB s.view s.acc.pro = true
  rk : 0 < s.acc.rank → properB s.view s.acc.rank = true
  acut : goodB s.view s.acc.cut = true
  prop : goodB s.view s.prop = true
  cho : goodB s.view s.cho = true
  dec : goodB s.view s.dec = true
  box : boxB s.view s.box = true
  own : (cutOf s.box s.self).2 = true → (cutOf s.box s.self).1 = s.prop
  reps : repsB s.view s.reps = true
  rpr : ∀ r ∈ s.reps, 0 < r.rank → properB s.view r.rank = true
  accs : repsB s.view s.accs = true
  apr : ∀ r ∈ s.accs, 1 ≤ r.rank ∧ properB s.view r.rank = true
  rank : s.rank ≠ 0 → properB s.view s.rank = true ∧ ownerOf s.rank = s.self
  ph : (s.phase = 0 ∧ s.reps = [] ∧ s.cho = []) ∨ (s.phase = 1 ∧ s.cho = [] ∨ s.phase = 2 ∧ s.cho ≠ []) ∧ s.rank ≠ 0 ∧ s.prop ≠ [] ∧ 0 ≤ ofB s.reps s.self
def few (s : Agr) : Prop := s.phase = 1 → (s.reps.length : Int) < majB s.view.mem.length
theorem all_get {l : List Rpt} {p : Nat → Bool} {q : Rpt → Prop} (h : ∀ i (hi : i < l.length), p i = true → q l[i]) (ha : allB p l.length = true) : ∀ r ∈ l, q r := fun r hr => by
  obtain ⟨i, hi, rfl⟩ := List.getElem_of_mem hr
  exact h i hi (allB_true.1 ha i hi)
theorem all_mk {l : List Rpt} {p : Nat → Bool} {q : Rpt → Prop} (h : ∀ i (hi : i < l.length), q l[i] → p i = true) (ha : ∀ r ∈ l, q r) : allB p l.length = true :=
  allB_true.2 fun i hi => h i hi (ha _ (List.getElem_mem hi))
theorem rk_get {v : View} {l : List Rpt} : allB (rkP v l) l.length = true ↔ ∀ r ∈ l, 0 < r.rank → properB v r.rank = true := by
  constructor
  · refine all_get fun i hi h h0 => ?_
    have hg : l.getD i rpt0 = l[i] := by simp [hi]
    rw [rkP, hg, decide_eq_true h0] at h
    simpa using h
  · refine all_mk fun i hi h => ?_
    have hg : l.getD i rpt0 = l[i] := by simp [hi]
    rw [rkP, hg]
    by_cases h0 : 0 < l[i].rank
    · rw [h h0]; simp
    · rw [decide_eq_false h0]; rfl
theorem le_get {m : Int} {l : List Rpt} : allB (leP m l) l.length = true ↔ ∀ r ∈ l, m ≤ r.rank := by
  constructor
  · refine all_get fun i hi h => ?_
    have hg : l.getD i rpt0 = l[i] := by simp [hi]
    rw [leP, hg] at h
    simp at h
    exact h
  · refine all_mk fun i hi h => ?_
    have hg : l.getD i rpt0 = l[i] := by simp [hi]
    rw [leP, hg]
    simp
    exact h
theorem len0 {α : Type} {l : List α} : decide ((l.length : Int) = 0) = true ↔ l = [] := by
  rw [decide_eq_true_eq]
  constructor
  · intro h
    exact List.length_eq_zero_iff.1 (by omega)
  · rintro rfl
    rfl
theorem len1 {α : Type} {l : List α} : decide (0 < (l.length : Int)) = true ↔ l ≠ [] := by
  rw [decide_eq_true_eq]
  constructor
  · rintro h rfl
    simp at h
  · intro h
    have : l.length ≠ 0 := fun e => h (List.length_eq_zero_iff.1 e)
    omega
theorem len1f {α : Type} {l : List α} : decide (0 < (l.length : Int)) = false ↔ l = [] := by
  cases h : decide (0 < (l.length : Int))
  · simp only [true_iff]
    by_cases e : l = []
    · exact e
    · rw [len1.2 e] at h
      cases h
  · have := len1.1 h
    simp [this]
theorem phase_iff (s : Agr) : phaseB s = true ↔ ((s.rank ≠ 0 → properB s.view s.rank = true ∧ ownerOf s.rank = s.self) ∧ ((s.phase = 0 ∧ s.reps = [] ∧ s.cho = []) ∨ (s.phase = 1 ∧ s.cho = [] ∨ s.phase = 2 ∧ s.cho ≠ []) ∧ s.rank ≠ 0 ∧ s.prop ≠ [] ∧ 0 ≤ ofB s.reps s.self) ∧ few s) := by
  unfold phaseB few
  have e1 := @len0 _ s.reps
  have e2 := @len1 _ s.cho
  have e3 := @len1 _ s.prop
  have e4 := @len1f _ s.cho
  generalize decide ((s.reps.length : Int) = 0) = a2 at *
  generalize decide (0 < (s.cho.length : Int)) = a3 at *
  generalize decide (0 < (s.prop.length : Int)) = a6 at *
  by_cases h0 : s.rank = 0
  · by_cases p0 : s.phase = 0
    · cases a2 <;> cases a3 <;> simp_all
    · cases a3 <;> by_cases p1 : s.phase = 1 <;> by_cases p2 : s.phase = 2 <;> simp_all
  · cases hb : (!properB s.view s.rank || !decide (ownerOf s.rank = s.self))
    · have hb' : properB s.view s.rank = true ∧ ownerOf s.rank = s.self := by
        simp only [Bool.or_eq_false_iff, Bool.not_eq_false', decide_eq_true_eq] at hb
        exact hb
      rw [decide_eq_false h0]
      simp only [Bool.not_false, Bool.true_and, cond_false, hb', ne_eq, h0, not_false_eq_true, true_and, forall_const]
      by_cases p0 : s.phase = 0
      · cases a2 <;> cases a3 <;> simp_all
      · by_cases p1 : s.phase = 1
        · cases a3 <;> cases a6 <;> by_cases h9 : 0 ≤ ofB s.reps s.self <;> simp_all
        · by_cases p2 : s.phase = 2
          · cases a3 <;> cases a6 <;> by_cases h9 : 0 ≤ ofB s.reps s.self <;> simp_all
          · cases a3 <;> simp_all
    · rw [decide_eq_false h0]
      simp only [Bool.not_false, Bool.true_and, cond_true, Bool.false_eq_true, ne_eq, h0, not_false_eq_true, forall_const, false_iff]
      intro ⟨h1, _⟩
      rw [h1.1, decide_eq_true h1.2] at hb
      cases hb
theorem agr_iff (s : Agr) : agrB s = true ↔ AW s ∧ few s := by
  constructor
  · intro h
    obtain ⟨v, self, w0, w1⟩ := agr_view h
    obtain ⟨g1, g2, g3, g4⟩ := agr_good h
    obtain ⟨r1, r2, r3, r4⟩ := agr_reps h
    obtain ⟨p1, p2, p3⟩ := (phase_iff s).1 r3
    have hl := le_get.1 (allB_true.2 r4)
    unfold agrB at h
    cases h1 : !viewB s.view || !inB s.view.mem s.self || decide (s.wait < 0) || decide (1099511627776 < s.wait)
    · rw [h1, cond_false] at h
      cases h2 : (!accB s.acc || !decide (s.acc.pro = 0) && !properB s.view s.acc.pro || decide (0 < s.acc.rank) && !properB s.view s.acc.rank || !goodB s.view s.acc.cut)
      · rw [h2, cond_false] at h
        simp only [Bool.or_eq_false_iff, Bool.and_eq_false_iff, Bool.not_eq_false', decide_eq_true_eq, decide_eq_false_iff_not] at h2
        cases h3 : !goodB s.view s.prop || !goodB s.view s.cho || !goodB s.view s.dec || !boxB s.view s.box
        · rw [h3, cond_false] at h
          cases h4 : (cutOf s.box s.self).2 && !sameI (cutOf s.box s.self).1 s.prop
          · rw [h4, cond_false] at h
            simp only [Bool.and_eq_true, prB] at h
            refine ⟨⟨v, self, w0, w1, h2.1.1.1, fun e => h2.1.1.2.resolve_left e, fun e => h2.1.2.resolve_left (fun h => h e), h2.2, g1, g2, g3, g4, fun e => ?_, r1, rk_get.1 h.2.1.1.1, r2, fun r hr => ⟨hl r hr, rk_get.1 h.2.1.2.1 r hr (by have := hl r hr; omega)⟩, p1, p2⟩, p3⟩
            rw [e, Bool.true_and] at h4
            exact sameI_iff.1 (by simpa using h4)
          · rw [h4] at h
            cases h
        · rw [h3] at h
          cases h
      · rw [h2] at h
        cases h
    · rw [h1] at h
      cases h
  · rintro ⟨h, hf⟩
    have h1 : (!viewB s.view || !inB s.view.mem s.self || decide (s.wait < 0) || decide (1099511627776 < s.wait)) = false := by
      have := h.w0
      have := h.w1
      rw [h.v, h.self, decide_eq_false (by omega), decide_eq_false (by omega)]
      rfl
    have h2 : (!accB s.acc || !decide (s.acc.pro = 0) && !properB s.view s.acc.pro || decide (0 < s.acc.rank) && !properB s.view s.acc.rank || !goodB s.view s.acc.cut) = false := by
      rw [h.acc, h.acut]
      simp only [Bool.or_eq_false_iff, Bool.and_eq_false_iff, Bool.not_eq_false', decide_eq_true_eq, decide_eq_false_iff_not]
      refine ⟨⟨⟨by simp, ?_⟩, ?_⟩, by simp⟩
      · by_cases e : s.acc.pro = 0
        · exact .inl e
        · exact .inr (h.pro e)
      · by_cases e : 0 < s.acc.rank
        · exact .inr (h.rk e)
        · exact .inl e
    have h3 : (!goodB s.view s.prop || !goodB s.view s.cho || !goodB s.view s.dec || !boxB s.view s.box) = false := by
      rw [h.prop, h.cho, h.dec, h.box]
      rfl
    have h4 : ((cutOf s.box s.self).2 && !sameI (cutOf s.box s.self).1 s.prop) = false := by
      cases e : (cutOf s.box s.self).2
      · rfl
      · rw [h.own e, sameI_iff.2 rfl]
        rfl
    unfold agrB
    rw [h1, h2, h3, h4]
    simp only [cond_false, Bool.and_eq_true, prB]
    exact ⟨le_get.2 fun r hr => (h.apr r hr).1, ⟨⟨rk_get.2 h.rpr, h.reps⟩, rk_get.2 fun r hr _ => (h.apr r hr).2, h.accs⟩, (phase_iff s).2 ⟨h.rank, h.ph, hf⟩⟩
end Go.Proofs.Ytmbniilpgbjcfaa

set_option maxRecDepth 100000
namespace Go.Proofs.Ytmbniilpgbjcfaa
open Go.Lift
theorem acc_in {v : View} {x : Int} (hv : viewB v = true) (h : inB v.mem x = true) : 1 ≤ x ∧ x ≤ 1000 := view_hi hv h
theorem reps_nil {v : View} (hv : viewB v = true) : repsB v [] = true := (reps_iff hv).2 ⟨by simp, .nil⟩
theorem vr_mk {v : View} {m r : Int} {c : List Int} (h1 : inB v.mem m = true) (h2 : usableB r = true) (h3 : appB v c = true) : vrB v ⟨m, r, c⟩ = true := by
  simp only [vrB, appB, Bool.and_eq_true, Bool.or_eq_true, decide_eq_true_eq] at *
  exact ⟨h1, .inr ⟨.inr h2, h3⟩⟩
theorem vr_in {v : View} {r : Rpt} (h : vrB v r = true) : inB v.mem r.mem = true := by
  simp only [vrB, Bool.and_eq_true] at h
  exact h.1
theorem vr_cut {v : View} {r : Rpt} (h : vrB v r = true) : (r.rank = -1 ∧ r.cut = []) ∨ (r.rank = 0 ∨ usableB r.rank = true) ∧ appB v r.cut = true := by
  simp only [vrB, appB, Bool.and_eq_true, Bool.or_eq_true, decide_eq_true_eq] at *
  rcases h.2 with h | h
  · exact .inl ⟨h.1, List.length_eq_zero_iff.1 (by omega)⟩
  · exact .inr h
theorem ofb_iff {l : List Rpt} {x : Int} : 0 ≤ ofB l x ↔ ∃ r ∈ l, r.mem = x := by
  constructor
  · intro h
    exact of_pos (decide_eq_true h)
  · rintro ⟨r, hr, he⟩
    cases h : decide (0 ≤ ofB l x)
    · exact absurd he (of_neg h r hr)
    · exact of_decide_eq_true h
theorem ins_sub {l : List Rpt} {r x : Rpt} (hx : x ∈ l) : x ∈ insR l r := by
  unfold insR
  rw [← List.take_append_drop (frontN l r.mem) l, List.mem_append] at hx
  simp only [List.mem_append, List.mem_singleton]
  rcases hx with hx | hx
  · exact .inl (.inl hx)
  · exact .inr hx
theorem add_sub {v : View} {l : List Rpt} {r x : Rpt} (h : repsB v l = true) (hx : x ∈ l) : x ∈ (addR v l r).1 := by
  unfold addR
  cases h2 : repsB v (insR l r)
  · simp [h, hx]
  · simp [h]
    exact ins_sub hx
theorem aw_idle {s : Agr} (h : AW s) : AW (idleA s) :=
  ⟨h.v, h.self, h.w0, h.w1, h.acc, h.pro, h.rk, h.acut, h.prop, good_iff.2 (.inl rfl), h.dec, h.box, h.own, reps_nil h.v, (fun r hr => by cases hr), h.accs, h.apr, h.rank, .inl ⟨rfl, rfl, rfl⟩⟩
theorem few_idle (s : Agr) : few (idleA s) := fun e => by
  have : (0 : Int) = 1 := e
  omega
theorem aw_accs {s : Agr} (h : AW s) {r : Rpt} (hr : vrB s.view r = true) (hp : properB s.view r.rank = true) : AW { s with accs := enterR s.view s.accs r } :=
  ⟨h.v, h.self, h.w0, h.w1, h.acc, h.pro, h.rk, h.acut, h.prop, h.cho, h.dec, h.box, h.own, h.reps, h.rpr, enter_reps h.v h.accs hr, (fun x hx => by
    rcases enter_mem hx with rfl | hx
    · have := use_pos (proper_use hp).1
      exact ⟨by omega, hp⟩
    · exact h.apr x hx), h.rank, h.ph⟩
theorem acc_mk {r : Int} {c : List Int} (h1 : usableB r = true) (h2 : idsB c 32 = true) : accB ⟨r, r, c⟩ = true := by
  have h0 := use_pos h1
  have h3 : ownerOf r ≠ 0 := by simpa [usableB] using h1
  exact (accB_iff _).2 ⟨.inr h3, Int.le_refl _, .inr ⟨.inr h3, by simp only []; omega, h2⟩⟩
theorem aw_acc {s : Agr} (h : AW s) {r : Int} {c : List Int} (hp : properB s.view r = true) (hc : appB s.view c = true) : AW { s with acc := ⟨r, r, c⟩ } :=
  ⟨h.v, h.self, h.w0, h.w1, acc_mk (proper_use hp).1 (app_ids (of_decide_eq_true hc)), fun _ => hp, fun _ => hp, good_iff.2 (.inr hc), h.prop, h.cho, h.dec, h.box, h.own, h.reps, h.rpr, h.accs, h.apr, h.rank, h.ph⟩
theorem acc_prep {a : Acc} (h : accB a = true) {r : Int} (h1 : usableB r = true) (h2 : a.pro ≤ r) : accB ⟨r, a.rank, a.cut⟩ = true := by
  obtain ⟨_, h4, h5⟩ := (accB_iff a).1 h
  exact (accB_iff _).2 ⟨.inr (by simpa [usableB] using h1), by simp only []; omega, h5⟩
theorem aw_prep {s : Agr} (h : AW s) {r : Int} (hp : properB s.view r = true) (hle : s.acc.pro ≤ r) : AW { s with acc := ⟨r, s.acc.rank, s.acc.cut⟩ } :=
  ⟨h.v, h.self, h.w0, h.w1, acc_prep h.acc (proper_use hp).1 hle, fun _ => hp, h.rk, h.acut, h.prop, h.cho, h.dec, h.box, h.own, h.reps, h.rpr, h.accs, h.apr, h.rank, h.ph⟩
theorem adv_cases {s : Agr} (h : AW s) : (few s ∧ advA s = s) ∨
    (s.phase = 1 ∧ gateB s.view s.reps s.prop = false ∧ s.prop ≠ [] ∧ appB s.view (chooseR s.view s.reps s.prop).1 = true ∧ (chooseR s.view s.reps s.prop).2 = true ∧
      (((acceptR s.acc s.rank (chooseR s.view s.reps s.prop).1).2 = true ∧ advA s = { s with cho := (chooseR s.view s.reps s.prop).1, phase := 2, acc := ⟨s.rank, s.rank, (chooseR s.view s.reps s.prop).1⟩, accs := enterR s.view s.accs ⟨s.self, s.rank, (chooseR s.view s.reps s.prop).1⟩ }) ∨
      ((acceptR s.acc s.rank (chooseR s.view s.reps s.prop).1).2 = false ∧ advA s = idleA s))) := by
  unfold advA
  cases hb : !decide (s.phase = 1) || decide ((s.reps.length : Int) < majB s.view.mem.length)
  · simp only [Bool.or_eq_false_iff, Bool.not_eq_false', decide_eq_true_eq, decide_eq_false_iff_not] at hb
    right
    have hpr : s.prop ≠ [] := by
      rcases h.ph with h0 | h0
      · omega
      · exact h0.2.2.1
    have hap := good_app h.prop hpr
    have hg : gateB s.view s.reps s.prop = false := by
      unfold gateB
      rw [h.reps, decide_eq_false hb.2, of_decide_eq_true hap]
      simp
    obtain ⟨c2, c1⟩ := choose_from hg hpr
    refine ⟨hb.1, hg, hpr, ?_, c2, ?_⟩
    · rcases c1 with c1 | ⟨r, hr, h0, c1⟩
      · rw [c1]; exact hap
      · rw [c1]
        rcases vr_cut (((reps_iff h.v).1 h.reps).1 r hr) with h2 | h2
        · omega
        · exact h2.2
    · cases ha : (acceptR s.acc s.rank (chooseR s.view s.reps s.prop).1).2
      · exact .inr ⟨rfl, rfl⟩
      · left
        have := (accept_ok h.acc ha).2.2.2.1
        rw [this]
        exact ⟨rfl, rfl⟩
  · left
    simp only [Bool.or_eq_true, Bool.not_eq_true', decide_eq_false_iff_not, decide_eq_true_eq] at hb
    refine ⟨fun e => ?_, rfl⟩
    rcases hb with hb | hb
    · exact absurd e hb
    · exact hb
theorem ok_adv {s : Agr} (h : AW s) : AW (advA s) ∧ few (advA s) ∧ (advA s).view = s.view ∧ (advA s).self = s.self ∧ (advA s).dec = s.dec ∧ (advA s).rank = s.rank := by
  rcases adv_cases h with ⟨hf, e⟩ | ⟨h1, hg, hpr, hap, _, ⟨ha, e⟩ | ⟨ha, e⟩⟩
  · rw [e]
    exact ⟨h, hf, rfl, rfl, rfl, rfl⟩
  · rw [e]
    have hph := h.ph
    rw [h1] at hph
    have hr0 : s.rank ≠ 0 := by
      rcases hph with h0 | h0
      · omega
      · exact h0.2.1
    have hof : 0 ≤ ofB s.reps s.self := by
      rcases hph with h0 | h0
      · omega
      · exact h0.2.2.2
    obtain ⟨hp, ho⟩ := h.rank hr0
    have h2 := aw_accs (r := ⟨s.self, s.rank, (chooseR s.view s.reps s.prop).1⟩) h (vr_mk h.self (proper_use hp).1 hap) hp
    have h3 := aw_acc h2 hp hap
    exact ⟨⟨h3.v, h3.self, h3.w0, h3.w1, h3.acc, h3.pro, h3.rk, h3.acut, h3.prop, good_iff.2 (.inr hap), h3.dec, h3.box, h3.own, h3.reps, h3.rpr, h3.accs, h3.apr, h3.rank, .inr ⟨.inr ⟨rfl, app_ne hap⟩, hr0, hpr, hof⟩⟩, (fun e => by
      have : (2 : Int) = 1 := e
      omega), rfl, rfl, rfl, rfl⟩
  · rw [e]
    exact ⟨aw_idle h, few_idle s, rfl, rfl, rfl, rfl⟩
structure PkOk (s : Agr) (p : Pkt) : Prop where
  vm : vmB s.view p.m = true
  src : p.m.src = s.self
  ne : p.to ≠ s.self
  to : p.to = 0 ∨ inB s.view.mem p.to = true
theorem vm_mk {v : View} {k self rank last : Int} {c : List Int} (hv : viewB v = true) (hs : inB v.mem self = true)
    (h : (bif decide (k = 1) || decide (k = 6) then decide (rank = 0) && decide (last = 0) && appB v c
  else bif decide (k = 2) then properB v rank && decide (ownerOf rank = self) && decide (last = 0) && decide ((c.length : Int) = 0)
  else bif decide (k = 3) then properB v rank && !decide (rank < last) && (decide (last = -1) && decide ((c.length : Int) = 0) || (decide (last = 0) || properB v last) && appB v c)
  else bif decide (k = 4) then properB v rank && decide (ownerOf rank = self) && decide (last = 0) && appB v c
  else bif decide (k = 5) then properB v rank && decide (last = 0) && appB v c
  else false) = true) : vmB v ⟨k, v.num, self, rank, last, c⟩ = true := by
  unfold vmB
  rw [hv, hs]
  simp only [decide_true, Bool.not_true, Bool.or_self, cond_false]
  exact h
theorem pk_all {s : Agr} (h : AW s) {k rank last : Int} {c : List Int} (hm : vmB s.view ⟨k, s.view.num, s.self, rank, last, c⟩ = true) : PkOk s (pktOf s 0 k rank last c) :=
  ⟨hm, rfl, (by have := acc_in h.v h.self; show (0 : Int) ≠ s.self; omega), .inl rfl⟩
theorem pk_dec {s : Agr} (h : AW s) {c : List Int} (hc : appB s.view c = true) : PkOk s (pktOf s 0 6 0 0 c) :=
  pk_all h (vm_mk h.v h.self (by simp [hc]))
theorem pk_vote {s : Agr} (h : AW s) {c : List Int} (hc : appB s.view c = true) : PkOk s (pktOf s 0 1 0 0 c) :=
  pk_all h (vm_mk h.v h.self (by simp [hc]))
theorem pk_prepare {s : Agr} (h : AW s) (hr : s.rank ≠ 0) : PkOk s (pktOf s 0 2 s.rank 0 []) := by
  obtain ⟨hp, ho⟩ := h.rank hr
  exact pk_all h (vm_mk h.v h.self (by simp [hp, ho]))
theorem pk_accept {s : Agr} (h : AW s) (hr : s.rank ≠ 0) {c : List Int} (hc : appB s.view c = true) : PkOk s (pktOf s 0 4 s.rank 0 c) := by
  obtain ⟨hp, ho⟩ := h.rank hr
  exact pk_all h (vm_mk h.v h.self (by simp [hp, ho, hc]))
theorem pk_accepted {s : Agr} (h : AW s) {r : Int} (hp : properB s.view r = true) {c : List Int} (hc : appB s.view c = true) : PkOk s (pktOf s 0 5 r 0 c) :=
  pk_all h (vm_mk h.v h.self (by simp [hp, hc]))
theorem win_mem {v : View} {l : List Bal} (h : (winR v l).2 = true) : ∃ b ∈ l, b.cut = (winR v l).1 := by
  unfold winR at h ⊢
  cases hb : !boxB v l
  · rw [hb, cond_false] at h
    rw [cond_false]
    cases hf : l.find? (fun b => decide (fastB v.mem.length ≤ (votesN l b.cut : Int))) with
    | none => rw [hf] at h; cases h
    | some b => exact ⟨b, List.mem_of_find?_eq_some hf, rfl⟩
  · rw [hb] at h
    cases h
theorem acc_mem {l : List Rpt} {m : Int} : ∀ i, i ≤ l.length → (accAt l m i).2 = [] ∨ ∃ r ∈ l, r.rank = (accAt l m i).1 ∧ r.cut = (accAt l m i).2 ∧ m ≤ (vA l r l.length : Int)
  | 0, _ => .inl rfl
  | i + 1, hi => by
    unfold accAt
    cases hb : decide (m ≤ (vA l (l.getD i rpt0) l.length : Int)) && decide ((accAt l m i).1 < (l.getD i rpt0).rank)
    · exact acc_mem i (by omega)
    · have hg : l.getD i rpt0 = l[i] := by simp [show i < l.length by omega]
      rw [hg] at hb ⊢
      simp only [Bool.and_eq_true, decide_eq_true_eq] at hb
      exact .inr ⟨l[i], List.getElem_mem (by omega), rfl, rfl, hb.1⟩
theorem dec_app {s : Agr} (h : AW s) (hn : decR s ≠ []) : appB s.view (decR s) = true := by
  unfold decR at hn ⊢
  cases hw : (winR s.view s.box).2
  · rw [hw, cond_false] at hn
    rw [cond_false]
    unfold accdR at hn ⊢
    rcases acc_mem (l := s.accs) (m := majB s.view.mem.length) s.accs.length (Nat.le_refl _) with h1 | ⟨r, hr, h2, h3, _⟩
    · exact absurd h1 hn
    · rw [← h3]
      have hap := h.apr r hr
      rcases vr_cut (((reps_iff h.v).1 h.accs).1 r hr) with h4 | h4
      · omega
      · exact h4.2
  · rw [cond_true]
    obtain ⟨b, hb, he⟩ := win_mem hw
    rw [← he]
    exact (((box_iff h.v).1 h.box).1 b hb).2
theorem ok_end {s : Agr} (h : AW s) (hf : few s) {ps : List Pkt} (hp : ∀ p ∈ ps, PkOk s p) : AW (endA s ps).1 ∧ few (endA s ps).1 ∧ (endA s ps).1.view = s.view ∧ (endA s ps).1.self = s.self ∧ ∀ p ∈ (endA s ps).2, PkOk s p := by
  unfold endA
  cases hb : decide ((s.dec.length : Int) = 0) && decide (0 < ((decR s).length : Int))
  · exact ⟨h, hf, rfl, rfl, hp⟩
  · rw [Bool.and_eq_true] at hb
    have ha := dec_app h (len1.1 hb.2)
    refine ⟨⟨h.v, h.self, h.w0, h.w1, h.acc, h.pro, h.rk, h.acut, h.prop, h.cho, good_iff.2 (.inr ha), h.box, h.own, h.reps, h.rpr, h.accs, h.apr, h.rank, h.ph⟩, hf, rfl, rfl, fun p hp2 => ?_⟩
    simp only [cond_true, List.mem_append, List.mem_singleton] at hp2
    rcases hp2 with hp2 | rfl
    · exact hp p hp2
    · exact pk_dec h ha
end Go.Proofs.Ytmbniilpgbjcfaa

set_option maxRecDepth 100000
namespace Go.Proofs.Ytmbniilpgbjcfaa
open Go.Lift
def Nice (s : Agr) (x : Agr × List Pkt) : Prop := AW x.1 ∧ few x.1 ∧ x.1.view = s.view ∧ x.1.self = s.self ∧ ∀ p ∈ x.2, PkOk s p
theorem nice_end {s : Agr} {x : Agr × List Pkt} (h : Nice s x) : Nice s (endA x.1 x.2) := by
  obtain ⟨h1, h2, h3, h4, h5⟩ := h
  have h5' : ∀ p ∈ x.2, PkOk x.1 p := fun p hp => by
    have := h5 p hp
    exact ⟨by rw [h3]; exact this.vm, by rw [h4]; exact this.src, by rw [h4]; exact this.ne, by rw [h3]; exact this.to⟩
  obtain ⟨e1, e2, e3, e4, e5⟩ := ok_end h1 h2 h5'
  refine ⟨e1, e2, e3.trans h3, e4.trans h4, fun p hp => ?_⟩
  have := e5 p hp
  exact ⟨by rw [← h3]; exact this.vm, by rw [← h4]; exact this.src, by rw [← h4]; exact this.ne, by rw [← h3]; exact this.to⟩
theorem vm_view {v : View} {m : Msg} (h : vmB v m = true) : inB v.mem m.src = true ∧ m.view = v.num := by
  unfold vmB at h
  cases h1 : !viewB v || !inB v.mem m.src || !decide (m.view = v.num)
  · simp only [Bool.or_eq_false_iff, Bool.not_eq_false', decide_eq_true_eq] at h1
    exact ⟨h1.1.2, h1.2⟩
  · rw [h1] at h
    cases h
theorem vm_body {v : View} {m : Msg} (h : vmB v m = true) : (m.kind = 1 ∨ m.kind = 6 → appB v m.cut = true) ∧ (m.kind = 2 → properB v m.rank = true ∧ ownerOf m.rank = m.src) ∧
    (m.kind = 3 → properB v m.rank = true ∧ m.last ≤ m.rank ∧ (m.last = -1 ∧ m.cut = [] ∨ (m.last = 0 ∨ properB v m.last = true) ∧ appB v m.cut = true)) ∧
    (m.kind = 4 → properB v m.rank = true ∧ ownerOf m.rank = m.src ∧ appB v m.cut = true) ∧ (m.kind = 5 → properB v m.rank = true ∧ appB v m.cut = true) := by
  unfold vmB at h
  cases h1 : !viewB v || !inB v.mem m.src || !decide (m.view = v.num)
  · rw [h1, cond_false] at h
    refine ⟨fun hk => ?_, fun hk => ?_, fun hk => ?_, fun hk => ?_, fun hk => ?_⟩
    · rcases hk with hk | hk <;> simp [hk] at h <;> exact h.2
    · simp [hk] at h
      exact ⟨h.1.1.1, h.1.1.2⟩
    · simp [hk] at h
      refine ⟨h.1.1, h.1.2, ?_⟩
      rcases h.2 with h2 | h2
      · exact .inl h2
      · exact .inr h2
    · simp [hk] at h
      exact ⟨h.1.1.1, h.1.1.2, h.2⟩
    · simp [hk] at h
      exact ⟨h.1.1, h.2⟩
  · rw [h1] at h
    cases h
theorem acc_cut {s : Agr} (h : AW s) : (s.acc.rank = -1 ∧ s.acc.cut = []) ∨ (s.acc.rank = 0 ∨ properB s.view s.acc.rank = true) ∧ appB s.view s.acc.cut = true := by
  rcases ((accB_iff s.acc).1 h.acc).2.2 with h1 | ⟨h1, _, h3⟩
  · exact .inl h1
  · right
    refine ⟨?_, good_app h.acut (ids_ne h3).1⟩
    rcases h1 with h1 | h1
    · exact .inl h1
    · have := owner_low h1
      exact .inr (h.rk (by omega))
theorem nice_prep {s : Agr} (h : AW s) (hf : few s) {m : Msg} (hm : vmB s.view m = true) (hk : m.kind = 2) (hn : m.src ≠ s.self) : Nice s (prepA s m) := by
  obtain ⟨hsrc, _⟩ := vm_view hm
  obtain ⟨hp, _⟩ := (vm_body hm).2.1 hk
  unfold prepA
  have key : ∀ t : Agr, AW t → few t → t.view = s.view → t.self = s.self → ∀ ps : List Pkt, (∀ p ∈ ps, PkOk s p) → Nice s ((bif decide (s.rank < m.rank) && !decide (s.phase = 0) then idleA t else t), ps) := by
    intro t h1 h2 h3 h4 ps hps
    cases decide (s.rank < m.rank) && !decide (s.phase = 0)
    · exact ⟨h1, h2, h3, h4, hps⟩
    · exact ⟨aw_idle h1, few_idle t, h3, h4, hps⟩
  cases ho : (prepR s.acc m.rank).2.2
  · exact key s h hf rfl rfl [] (by simp)
  · obtain ⟨hu, hle, e1, e2⟩ := prep_ok h.acc ho
    rw [e1, e2]
    have hrl := ((accB_iff s.acc).1 h.acc).2.1
    refine key _ (aw_prep h hp hle) hf rfl rfl _ (fun p hp2 => ?_)
    simp only [cond_true, List.mem_singleton] at hp2
    subst hp2
    refine ⟨vm_mk h.v h.self ?_, rfl, hn, .inr hsrc⟩
    simp only [hp, Bool.true_and]
    have h0 : decide (m.rank < s.acc.rank) = false := decide_eq_false (by omega)
    rcases acc_cut h with ⟨h1, h2⟩ | ⟨h1, h2⟩
    · rw [h0, h1, h2]
      rfl
    · rw [h0, h2]
      rcases h1 with h1 | h1
      · rw [h1]
        simp
      · rw [h1]
        simp
theorem nice_prom {s : Agr} (h : AW s) (hf : few s) {m : Msg} (hm : vmB s.view m = true) (hk : m.kind = 3) : Nice s (promA s m) := by
  obtain ⟨hsrc, _⟩ := vm_view hm
  obtain ⟨hp, _, hl⟩ := (vm_body hm).2.2.1 hk
  unfold promA
  cases hb : !decide (s.phase = 1) || !decide (m.rank = s.rank)
  · simp only [Bool.or_eq_false_iff, Bool.not_eq_false', decide_eq_true_eq] at hb
    have hph := h.ph
    rw [hb.1] at hph
    have hph : s.cho = [] ∧ s.rank ≠ 0 ∧ s.prop ≠ [] ∧ 0 ≤ ofB s.reps s.self := by
      rcases hph with h0 | ⟨h0 | h0, h1⟩
      · omega
      · exact ⟨h0.2, h1⟩
      · omega
    have h1 : AW { s with reps := (addR s.view s.reps ⟨m.src, m.last, m.cut⟩).1 } := by
      refine ⟨h.v, h.self, h.w0, h.w1, h.acc, h.pro, h.rk, h.acut, h.prop, h.cho, h.dec, h.box, h.own, add_reps h.reps, fun r hr h0 => ?_, h.accs, h.apr, h.rank, .inr ⟨.inl ⟨hb.1, hph.1⟩, hph.2.1, hph.2.2.1, ?_⟩⟩
      · rcases add_mem hr with rfl | hr
        · rcases hl with hl | hl
          · simp only [] at h0
            omega
          · rcases hl.1 with hl | hl
            · simp only [] at h0
              omega
            · exact hl
        · exact h.rpr r hr h0
      · obtain ⟨r, hr, he⟩ := ofb_iff.1 hph.2.2.2
        exact ofb_iff.2 ⟨r, add_sub h.reps hr, he⟩
    obtain ⟨h2, h3, h4, h5, _, h6⟩ := ok_adv h1
    refine ⟨h2, h3, h4, h5, fun p hp2 => ?_⟩
    simp only [cond_false] at hp2
    generalize advA { s with reps := (addR s.view s.reps ⟨m.src, m.last, m.cut⟩).1 } = A at *
    cases hA : decide (A.phase = 2)
    · rw [hA] at hp2
      cases hp2
    · rw [hA] at hp2
      simp only [cond_true, List.mem_singleton] at hp2
      subst hp2
      have hA := of_decide_eq_true hA
      have hc : A.cho ≠ [] ∧ A.rank ≠ 0 := by
        rcases h2.ph with h0 | ⟨h0 | h0, h7⟩
        · omega
        · omega
        · exact ⟨h0.2, h7.1⟩
      have := pk_accept h2 hc.2 (good_app h2.cho hc.1)
      exact ⟨by rw [← h4]; exact this.vm, by rw [← h5]; exact this.src, by rw [← h5]; exact this.ne, by rw [← h4]; exact this.to⟩
  · exact ⟨h, hf, rfl, rfl, by simp⟩
theorem nice_acct {s : Agr} (h : AW s) (hf : few s) {m : Msg} (hm : vmB s.view m = true) (hk : m.kind = 4) : Nice s (acctA s m) := by
  obtain ⟨hsrc, _⟩ := vm_view hm
  obtain ⟨hp, _, hc⟩ := (vm_body hm).2.2.2.1 hk
  have h1 := aw_accs (r := ⟨m.src, m.rank, m.cut⟩) h (vr_mk hsrc (proper_use hp).1 hc) hp
  unfold acctA
  cases ha : (acceptR s.acc m.rank m.cut).2
  · exact ⟨h1, hf, rfl, rfl, by simp⟩
  · have e := (accept_ok h.acc ha).2.2.2.1
    rw [e]
    have h2 := aw_accs (r := ⟨s.self, m.rank, m.cut⟩) h1 (vr_mk h.self (proper_use hp).1 hc) hp
    have h3 := aw_acc h2 hp hc
    refine ⟨h3, hf, rfl, rfl, fun p hp2 => ?_⟩
    simp only [cond_true, List.mem_singleton] at hp2
    subst hp2
    exact pk_accepted h hp hc
theorem nice_accd {s : Agr} (h : AW s) (hf : few s) {m : Msg} (hm : vmB s.view m = true) (hk : m.kind = 5) : Nice s ({ s with accs := enterR s.view s.accs ⟨m.src, m.rank, m.cut⟩ }, []) := by
  obtain ⟨hsrc, _⟩ := vm_view hm
  obtain ⟨hp, hc⟩ := (vm_body hm).2.2.2.2 hk
  exact ⟨aw_accs h (vr_mk hsrc (proper_use hp).1 hc) hp, hf, rfl, rfl, by simp⟩
theorem nice_deci {s : Agr} (h : AW s) (hf : few s) {m : Msg} (hm : vmB s.view m = true) (hk : m.kind = 6) : Nice s ({ s with dec := m.cut }, [pktOf s 0 6 0 0 m.cut]) := by
  have hc := (vm_body hm).1 (.inr hk)
  refine ⟨⟨h.v, h.self, h.w0, h.w1, h.acc, h.pro, h.rk, h.acut, h.prop, h.cho, good_iff.2 (.inr hc), h.box, h.own, h.reps, h.rpr, h.accs, h.apr, h.rank, h.ph⟩, hf, rfl, rfl, fun p hp => ?_⟩
  simp only [List.mem_singleton] at hp
  subst hp
  exact pk_dec h hc
theorem ofbal_at {l : List Bal} {x : Int} (h : decide (0 ≤ ofBal l x) = true) : (ofBal l x).toNat < l.length ∧ (l.getD (ofBal l x).toNat bal0).mem = x := by
  have h := of_decide_eq_true h
  unfold ofBal at h ⊢
  rcases hf : (List.range l.length).find? (fun i => decide ((l.getD i bal0).mem = x)) with _ | n
  · simp only [findB, hf] at h
    omega
  · have hn : n < l.length := List.mem_range.1 (List.mem_of_find?_eq_some hf)
    have hn2 := List.find?_some hf
    simp only [findB, hf, Int.toNat_natCast]
    exact ⟨hn, of_decide_eq_true hn2⟩
theorem cut_some {l : List Bal} {x : Int} (h : (cutOf l x).2 = true) : ∃ b ∈ l, b.mem = x ∧ b.cut = (cutOf l x).1 := by
  unfold cutOf at h ⊢
  cases hd : decide (0 ≤ ofBal l x)
  · rw [hd] at h
    cases h
  · obtain ⟨h1, h2⟩ := ofbal_at hd
    refine ⟨l.getD (ofBal l x).toNat bal0, ?_, h2, rfl⟩
    simp [h1]
theorem cut_none {l : List Bal} {x : Int} (h : (cutOf l x).2 = false) : ∀ b ∈ l, b.mem ≠ x := by
  unfold cutOf at h
  cases hd : decide (0 ≤ ofBal l x)
  · exact ofb_neg hd
  · rw [hd] at h
    cases h
theorem bal_one {l : List Bal} (hp : List.Pairwise (fun a b : Bal => a.mem < b.mem) l) {a b : Bal} (ha : a ∈ l) (hb : b ∈ l) (he : a.mem = b.mem) : a = b := by
  obtain ⟨i, hi, rfl⟩ := List.getElem_of_mem ha
  obtain ⟨j, hj, rfl⟩ := List.getElem_of_mem hb
  rw [List.pairwise_iff_getElem] at hp
  rcases Nat.lt_trichotomy i j with h | h | h
  · have := hp i j hi hj h
    omega
  · subst h
    rfl
  · have := hp j i hj hi h
    omega
theorem own_iff {v : View} (hv : viewB v = true) {l : List Bal} (hb : boxB v l = true) {x : Int} {c : List Int} : ((cutOf l x).2 = true → (cutOf l x).1 = c) ↔ ∀ b ∈ l, b.mem = x → b.cut = c := by
  constructor
  · intro h b hbm he
    cases hc : (cutOf l x).2
    · exact absurd he (cut_none hc b hbm)
    · obtain ⟨b2, h2, h3, h4⟩ := cut_some hc
      have := bal_one ((box_iff hv).1 hb).2 hbm h2 (he.trans h3.symm)
      rw [this, h4, h hc]
  · intro h hc
    obtain ⟨b2, h2, h3, h4⟩ := cut_some hc
    rw [← h4, h b2 h2 h3]
theorem cast_ok {v : View} {l : List Bal} {b : Bal} (h : (castR v l b).2 = 0) : boxB v l = true ∧ appB v b.cut = true ∧ inB v.mem b.mem = true ∧ (∀ x ∈ l, x.mem ≠ b.mem) ∧ (castR v l b).1 = insB l b := by
  unfold castR at h ⊢
  cases h1 : !boxB v l || !appB v b.cut
  · rw [h1, cond_false] at h
    rw [cond_false]
    simp only [Bool.or_eq_false_iff, Bool.not_eq_false'] at h1
    cases h2 : !inB v.mem b.mem
    · rw [h2, cond_false] at h
      rw [cond_false]
      cases h3 : decide (0 ≤ ofBal l b.mem)
      · exact ⟨h1.1, h1.2, by simpa using h2, ofb_neg h3, rfl⟩
      · rw [h3] at h
        simp at h
    · rw [h2] at h
      simp at h
  · rw [h1] at h
    simp at h
theorem box_ins {v : View} (hv : viewB v = true) {l : List Bal} {b : Bal} (h : boxB v l = true) (hc : appB v b.cut = true) (hi : inB v.mem b.mem = true) (hn : ∀ x ∈ l, x.mem ≠ b.mem) : boxB v (insB l b) = true := by
  obtain ⟨h1, h2⟩ := (box_iff hv).1 h
  refine (box_iff hv).2 ⟨fun x hx => ?_, (insb_pair h2).2 hn⟩
  rcases insB_mem hx with rfl | hx
  · exact ⟨hi, hc⟩
  · exact h1 x hx
theorem aw_box {s : Agr} (h : AW s) {l : List Bal} (hb : boxB s.view l = true) (ho : ∀ b ∈ l, b.mem = s.self → b.cut = s.prop) : AW { s with box := l } :=
  ⟨h.v, h.self, h.w0, h.w1, h.acc, h.pro, h.rk, h.acut, h.prop, h.cho, h.dec, hb, (own_iff h.v hb).2 ho, h.reps, h.rpr, h.accs, h.apr, h.rank, h.ph⟩
theorem nice_vote {s : Agr} (h : AW s) (hf : few s) {m : Msg} (hn : m.src ≠ s.self) : Nice s (voteA s m, []) := by
  unfold voteA
  cases hc : decide ((castR s.view s.box ⟨m.src, m.cut⟩).2 = 0)
  · exact ⟨h, hf, rfl, rfl, by simp⟩
  · obtain ⟨h1, h2, h3, h4, h5⟩ := cast_ok (of_decide_eq_true hc)
    rw [cond_true, h5]
    refine ⟨aw_box h (box_ins h.v h1 h2 h3 h4) (fun b hb he => ?_), hf, rfl, rfl, by simp⟩
    rcases insB_mem hb with rfl | hb
    · exact absurd he hn
    · exact (own_iff h.v h.box).1 h.own b hb he
theorem nice_act {s : Agr} (h : AW s) (hf : few s) {m : Msg} (hm : vmB s.view m = true) (hn : m.src ≠ s.self) : Nice s (actA s m) := by
  unfold actA
  rcases vm_kind hm with hk | hk | hk | hk | hk | hk
  · rw [if_pos hk]; exact nice_vote h hf hn
  · rw [if_neg (by omega), if_pos hk]; exact nice_prep h hf hm hk hn
  · rw [if_neg (by omega), if_neg (by omega), if_pos hk]; exact nice_prom h hf hm hk
  · rw [if_neg (by omega), if_neg (by omega), if_neg (by omega), if_pos hk]; exact nice_acct h hf hm hk
  · rw [if_neg (by omega), if_neg (by omega), if_neg (by omega), if_neg (by omega), if_pos hk]; exact nice_accd h hf hm hk
  · rw [if_neg (by omega), if_neg (by omega), if_neg (by omega), if_neg (by omega), if_neg (by omega)]; exact nice_deci h hf hm hk
theorem nice_rec {s : Agr} (h : AW s) (hf : few s) {m : Msg} (hok : (recA s m).2.2 = 0) : Nice s ((recA s m).1, (recA s m).2.1) := by
  have hb : agrB s = true := (agr_iff s).2 ⟨h, hf⟩
  unfold recA at hok ⊢
  rw [if_neg (by rw [hb]; simp)] at hok ⊢
  by_cases h2 : decide (m.view = s.view.num) = false
  · rw [if_pos h2] at hok
    simp at hok
  rw [if_neg h2] at hok ⊢
  by_cases h3 : (!vmB s.view m || decide (m.src = s.self)) = true
  · rw [if_pos h3] at hok
    simp at hok
  rw [if_neg h3] at hok ⊢
  have h3 : (!vmB s.view m || decide (m.src = s.self)) = false := by simpa using h3
  simp only [Bool.or_eq_false_iff, Bool.not_eq_false', decide_eq_false_iff_not] at h3
  by_cases h5 : decide (0 < (s.dec.length : Int)) = true
  · rw [if_pos h5]
    refine ⟨h, hf, rfl, rfl, fun p hp => ?_⟩
    cases hk : decide (m.kind = 6)
    · simp only [hk, cond_false, List.mem_singleton] at hp
      subst hp
      have hd := good_app h.dec (len1.1 h5)
      exact ⟨vm_mk h.v h.self (by simp [hd]), rfl, h3.2, .inr (vm_view h3.1).1⟩
    · simp only [hk, cond_true] at hp
      cases hp
  rw [if_neg h5]
  exact nice_end (nice_act h hf h3.1 h3.2)
end Go.Proofs.Ytmbniilpgbjcfaa

set_option maxRecDepth 100000
namespace Go.Proofs.Ytmbniilpgbjcfaa
open Go.Lift
end Go.Proofs.Ytmbniilpgbjcfaa

set_option maxRecDepth 100000
namespace Go.Proofs.Ytmbniilpgbjcfaa
open Go.Lift
end Go.Proofs.Ytmbniilpgbjcfaa

set_option maxRecDepth 100000
namespace Go.Proofs.Ytmbniilpgbjcfaa
open Go.Lift
def vwA : View := ⟨0, [1, 2]⟩
def sA1 : Agr := ⟨1, vwA, ⟨0, -1, []⟩, [], [], 0, 0, [], [], [], [], 0⟩
def sA2 : Agr := ⟨1, vwA, ⟨0, 0, [7]⟩, [7], [⟨1, [7]⟩], 0, 0, [], [], [], [], 0⟩
def pA1 : Pkt := ⟨0, ⟨1, 0, 1, 0, 0, [7]⟩⟩
def tA1 : Agr := ⟨2, vwA, ⟨0, -1, []⟩, [], [], 0, 0, [], [], [], [], 0⟩
def tA2 : Agr := ⟨2, vwA, ⟨0, 0, [7]⟩, [7], [⟨2, [7]⟩], 0, 0, [], [], [], [], 0⟩
def qA1 : Pkt := ⟨0, ⟨1, 0, 2, 0, 0, [7]⟩⟩
def tA3 : Agr := ⟨2, vwA, ⟨0, 0, [7]⟩, [7], [⟨1, [7]⟩, ⟨2, [7]⟩], 0, 0, [], [], [], [7], 0⟩
def rA1 : Pkt := ⟨0, ⟨6, 0, 2, 0, 0, [7]⟩⟩
def wwA : View := ⟨0, [3]⟩
def oA1 : Agr := ⟨3, wwA, ⟨0, -1, []⟩, [], [], 0, 0, [], [], [], [], 0⟩
def oA2 : Agr := ⟨3, wwA, ⟨0, 0, [4]⟩, [4], [⟨3, [4]⟩], 0, 0, [], [], [], [4], 0⟩
def oP1 : Pkt := ⟨0, ⟨1, 0, 3, 0, 0, [4]⟩⟩
def oP2 : Pkt := ⟨0, ⟨6, 0, 3, 0, 0, [4]⟩⟩
theorem smEx {s : Agr} (h1 : s.view.mem.length ≤ 1000) (h2 : s.acc.cut.length ≤ 1000) (h3 : s.prop.length ≤ 1000) (h4 : s.box.length ≤ 1000) (h5 : ∀ b ∈ s.box, b.cut.length ≤ 1000) (h6 : s.reps = []) (h7 : s.cho.length ≤ 1000) (h8 : s.accs = []) (h9 : s.dec.length ≤ 1000) : SmA s :=
  ⟨h1, h2, h3, h4, h5, (by rw [h6]; exact Nat.zero_le _), (fun b hb => by rw [h6] at hb; cases hb), h7, (by rw [h8]; exact Nat.zero_le _), (fun b hb => by rw [h8] at hb; cases hb), h9⟩
set_option maxHeartbeats 8000000 in
theorem c_law10_awake : Ret Try.prog 7 [] (.v (.bool true)) := by
  have e1 : Ret Try.prog 9 [.agg (viewE vwA), i64 1] (.tup [.agg (agrE sA1), i64 0]) := by
    have := c_agreement_New vwA (by decide) 1
    rw [show newA vwA 1 = (sA1, 0) by kernel_rfl] at this
    exact this
  have e2 : Ret Try.prog 9 [.agg (viewE vwA), i64 2] (.tup [.agg (agrE tA1), i64 0]) := by
    have := c_agreement_New vwA (by decide) 2
    rw [show newA vwA 2 = (tA1, 0) by kernel_rfl] at this
    exact this
  have e3 : Ret Try.prog 9 [.agg (viewE wwA), i64 3] (.tup [.agg (agrE oA1), i64 0]) := by
    have := c_agreement_New wwA (by decide) 3
    rw [show newA wwA 3 = (oA1, 0) by kernel_rfl] at this
    exact this
  have e4 : Ret Try.prog 16 [.agg (agrE sA1), .lst 1 (([7] : List Int).map intE) false] (.tup [.agg (agrE sA2), .lst 7 ([pA1].map pktE) false, i64 0]) := by
    have := c_agreement_Propose sA1 (smEx (by decide) (by decide) (by decide) (by decide) (fun b hb => by cases hb) rfl (by decide) rfl (by decide)) [7] (by decide)
    rw [show propA sA1 [7] = (sA2, [pA1], 0) by kernel_rfl] at this
    exact this
  have e5 : Ret Try.prog 16 [.agg (agrE tA1), .lst 1 (([7] : List Int).map intE) false] (.tup [.agg (agrE tA2), .lst 7 ([qA1].map pktE) false, i64 0]) := by
    have := c_agreement_Propose tA1 (smEx (by decide) (by decide) (by decide) (by decide) (fun b hb => by cases hb) rfl (by decide) rfl (by decide)) [7] (by decide)
    rw [show propA tA1 [7] = (tA2, [qA1], 0) by kernel_rfl] at this
    exact this
  have e6 : Ret Try.prog 16 [.agg (agrE oA1), .lst 1 (([4] : List Int).map intE) false] (.tup [.agg (agrE oA2), .lst 7 ([oP1, oP2].map pktE) false, i64 0]) := by
    have := c_agreement_Propose oA1 (smEx (by decide) (by decide) (by decide) (by decide) (fun b hb => by cases hb) rfl (by decide) rfl (by decide)) [4] (by decide)
    rw [show propA oA1 [4] = (oA2, [oP1, oP2], 0) by kernel_rfl] at this
    exact this
  have e7 : Ret Try.prog 17 [.agg (agrE tA2), .agg (msgE pA1.m)] (.tup [.agg (agrE tA3), .lst 7 ([rA1].map pktE) false, i64 0]) := by
    have := c_Receive_vote tA2 (smEx (by decide) (by decide) (by decide) (by decide) (fun b hb => by
      rcases List.mem_singleton.1 hb with rfl
      decide) rfl (by decide) rfl (by decide)) pA1.m (by decide) (by kernel_rfl) rfl (by kernel_rfl) (by decide) rfl rfl
    rw [show endA (voteA tA2 pA1.m) [] = (tA3, [rA1]) by kernel_rfl] at this
    exact this
  refine ret_of_body (fn := Try.f7) (c := Try.f7.body.getD .skip) hm hT (by kernel_rfl) Try.func7 (by kernel_rfl) (by kernel_rfl) (by kernel_rfl) (by kernel_rfl) ?_
  repeat' ((conv => whnf); first | refine And.intro (fun h => h) ?_ | refine dcond_t (by assumption) ?_ | refine dcond_f (by assumption) ?_ | (refine dcond_intro ?_ ?_ <;> intro h) | exact .refl | refine And.intro (by kernel_rfl) ?_ | refine And.intro ⟨fun h => h, fun h => h⟩ ?_ | refine .inl ⟨_, _, DleAll_refl _, e1, ?_⟩ | refine ⟨_, _, DleAll_refl _, fun _ => e1, ?_⟩ | refine ⟨_, _, DleAll_refl _, e1, ?_⟩ | refine .inl ⟨_, _, DleAll_refl _, e2, ?_⟩ | refine ⟨_, _, DleAll_refl _, fun _ => e2, ?_⟩ | refine ⟨_, _, DleAll_refl _, e2, ?_⟩ | refine .inl ⟨_, _, DleAll_refl _, e3, ?_⟩ | refine ⟨_, _, DleAll_refl _, fun _ => e3, ?_⟩ | refine ⟨_, _, DleAll_refl _, e3, ?_⟩ | refine .inl ⟨_, _, DleAll_refl _, e4, ?_⟩ | refine ⟨_, _, DleAll_refl _, fun _ => e4, ?_⟩ | refine ⟨_, _, DleAll_refl _, e4, ?_⟩ | refine .inl ⟨_, _, DleAll_refl _, e5, ?_⟩ | refine ⟨_, _, DleAll_refl _, fun _ => e5, ?_⟩ | refine ⟨_, _, DleAll_refl _, e5, ?_⟩ | refine .inl ⟨_, _, DleAll_refl _, e6, ?_⟩ | refine ⟨_, _, DleAll_refl _, fun _ => e6, ?_⟩ | refine ⟨_, _, DleAll_refl _, e6, ?_⟩ | refine .inl ⟨_, _, DleAll_refl _, e7, ?_⟩ | refine ⟨_, _, DleAll_refl _, fun _ => e7, ?_⟩ | refine ⟨_, _, DleAll_refl _, e7, ?_⟩ | refine ⟨0, pktE pA1, And.intro ⟨fun h => h, fun _ => ⟨rfl, rfl⟩⟩ ?_⟩ | refine ⟨0, pktE pA1, And.intro ⟨rfl, rfl⟩ ?_⟩ | refine ⟨0, intE 7, And.intro ⟨fun h => h, fun _ => ⟨rfl, rfl⟩⟩ ?_⟩ | refine ⟨0, intE 7, And.intro ⟨rfl, rfl⟩ ?_⟩ | refine ⟨0, pktE rA1, And.intro ⟨fun h => h, fun _ => ⟨rfl, rfl⟩⟩ ?_⟩ | refine ⟨0, pktE rA1, And.intro ⟨rfl, rfl⟩ ?_⟩ | refine Exists.intro false ?_ | (refine And.intro ?_ ?_; focus (simp; done)) | fail)
end Go.Proofs.Ytmbniilpgbjcfaa

set_option maxRecDepth 100000
namespace Go.Proofs.Ytmbniilpgbjcfaa
open Go.Lift
theorem good_len {v : View} {c : List Int} (h : goodB v c = true) : c.length ≤ 32 := by
  rcases good_iff.1 h with rfl | h
  · exact Nat.zero_le _
  · have := (ids_ne (app_ids (of_decide_eq_true h))).2
    omega
theorem rpt_len {v : View} {r : Rpt} (h : vrB v r = true) : r.cut.length ≤ 32 := by
  rcases vr_cut h with h | h
  · rw [h.2]
    exact Nat.zero_le _
  · exact good_len (good_iff.2 (.inr h.2))
theorem sm_aw {s : Agr} (h : AW s) : SmA s := by
  have hn := view_n h.v
  have hr := reps_16 h.reps
  have ha := reps_16 h.accs
  have hb := box_le h.box
  refine ⟨by omega, by have := good_len h.acut; omega, by have := good_len h.prop; omega, by omega, fun b hb2 => ?_, by omega, fun r hr2 => ?_, by have := good_len h.cho; omega, by omega, fun r hr2 => ?_, by have := good_len h.dec; omega⟩
  · have := good_len (good_iff.2 (.inr (((box_iff h.v).1 h.box).1 b hb2).2))
    omega
  · have := rpt_len (((reps_iff h.v).1 h.reps).1 r hr2)
    omega
  · have := rpt_len (((reps_iff h.v).1 h.accs).1 r hr2)
    omega
theorem nice_rsd {s : Agr} (h : AW s) : ∀ p ∈ rsdA s, PkOk s p := by
  intro p hp
  unfold rsdA at hp
  rw [List.mem_append, List.mem_append] at hp
  rcases hp with (hp | hp) | hp
  · unfold sndV at hp
    cases hc : (cutOf s.box s.self).2
    · rw [hc] at hp
      cases hp
    · rw [hc] at hp
      simp only [cond_true, List.mem_singleton] at hp
      subst hp
      obtain ⟨b, hb, _, he⟩ := cut_some hc
      rw [← he]
      exact pk_vote h (((box_iff h.v).1 h.box).1 b hb).2
  · unfold sndP at hp
    cases h1 : decide (s.phase = 1)
    · cases h2 : decide (s.phase = 2)
      · rw [h1, h2] at hp
        cases hp
      · rw [h1, h2] at hp
        simp only [cond_true, cond_false, List.mem_singleton] at hp
        subst hp
        have h2 := of_decide_eq_true h2
        rcases h.ph with h0 | ⟨h0 | h0, h7⟩
        · omega
        · omega
        · exact pk_accept h h7.1 (good_app h.cho h0.2)
    · rw [h1] at hp
      simp only [cond_true, List.mem_singleton] at hp
      subst hp
      have h1 := of_decide_eq_true h1
      rcases h.ph with h0 | ⟨h0 | h0, h7⟩
      · omega
      · exact pk_prepare h h7.1
      · omega
  · unfold sndA at hp
    cases hb : decide (0 ≤ ofB s.accs s.self) && !decide (s.phase = 2)
    · rw [hb] at hp
      cases hp
    · rw [hb] at hp
      simp only [cond_true, List.mem_singleton] at hp
      subst hp
      obtain ⟨_, hk⟩ := ofr_ix ((Bool.and_eq_true ..).mp hb).1
      have hm : s.accs.getD (ofB s.accs s.self).toNat rpt0 ∈ s.accs := by simp [hk]
      generalize s.accs.getD (ofB s.accs s.self).toNat rpt0 = r at *
      have ha := h.apr r hm
      refine pk_accepted h ha.2 ?_
      rcases vr_cut (((reps_iff h.v).1 h.accs).1 r hm) with h4 | h4
      · omega
      · exact h4.2
theorem rank_own {a m : Int} (h : rankOf a m ≠ 0) : 1 ≤ a ∧ a ≤ 1048575 ∧ rankOf a m = 1024 * a + m ∧ ownerOf (rankOf a m) = m ∧ 1 ≤ m ∧ m ≤ 1000 := by
  by_cases hc : 1 ≤ a ∧ a ≤ 1048575 ∧ 1 ≤ m ∧ m ≤ 1000
  · have e := rankOf_in hc.1 hc.2.1 hc.2.2.1 hc.2.2.2
    refine ⟨hc.1, hc.2.1, e, ?_, hc.2.2.1, hc.2.2.2⟩
    rw [e, owner_in (by omega) (by omega) (by omega)]
    omega
  · exact absurd (rankOf_out hc) h
theorem att_own {s : Agr} (h : AW s) (hn : attRank s ≠ 0) : properB s.view (attRank s) = true ∧ ownerOf (attRank s) = s.self := by
  unfold attRank at hn ⊢
  obtain ⟨_, _, _, h4, h5, _⟩ := rank_own hn
  refine ⟨?_, h4⟩
  unfold properB
  rw [h4, h.self, decide_eq_false (by omega)]
  rfl
theorem rep_own {s : Agr} (h : AW s) : vrB s.view ⟨s.self, s.acc.rank, s.acc.cut⟩ = true := by
  simp only [vrB, h.self, Bool.true_and, Bool.or_eq_true, Bool.and_eq_true, decide_eq_true_eq]
  rcases acc_cut h with ⟨h1, h2⟩ | ⟨h1, h2⟩
  · left
    rw [h2]
    exact ⟨h1, rfl⟩
  · right
    refine ⟨?_, of_decide_eq_true h2⟩
    rcases h1 with h1 | h1
    · exact .inl h1
    · exact .inr (proper_use h1).1
theorem reps_one {v : View} (hv : viewB v = true) {r : Rpt} (h : vrB v r = true) : repsB v [r] = true :=
  (reps_iff hv).2 ⟨fun x hx => by rw [List.mem_singleton.1 hx]; exact h, List.pairwise_singleton ..⟩
def attS (s : Agr) : Agr := { s with acc := ⟨attRank s, s.acc.rank, s.acc.cut⟩, wait := 0, rank := attRank s, phase := 1, cho := [], reps := [⟨s.self, s.acc.rank, s.acc.cut⟩] }
theorem aw_att {s : Agr} (h : AW s) (hp : s.prop ≠ []) (hr : properB s.view (attRank s) = true) (ho : ownerOf (attRank s) = s.self) (hle : s.acc.pro ≤ attRank s) : AW (attS s) := by
  have h1 := aw_prep h hr hle
  have hpos := use_pos (proper_use hr).1
  refine ⟨h.v, h.self, Int.le_refl _, (by show (0 : Int) ≤ _; omega), h1.acc, h1.pro, h1.rk, h1.acut, h.prop, good_iff.2 (.inl rfl), h.dec, h.box, h.own, reps_one h.v (rep_own h), fun r hr2 h0 => ?_, h.accs, h.apr, fun _ => ⟨hr, ho⟩, .inr ⟨.inl ⟨rfl, rfl⟩, ?_, hp, ofb_iff.2 ⟨_, List.mem_singleton.2 rfl, rfl⟩⟩⟩
  · rcases List.mem_singleton.1 hr2 with rfl
    exact h.rk h0
  · show attRank s ≠ 0
    omega
theorem att_cases {s : Agr} (h : AW s) : attA s = s ∨ (properB s.view (attRank s) = true ∧ ownerOf (attRank s) = s.self ∧ s.acc.pro ≤ attRank s ∧ attA s = advA (attS s)) := by
  unfold attA
  cases h0 : decide (attRank s = 0)
  · cases ho : (prepR s.acc (attRank s)).2.2
    · exact .inl rfl
    · obtain ⟨h1, h2⟩ := att_own h (of_decide_eq_false h0)
      obtain ⟨_, hle, e1, e2⟩ := prep_ok h.acc ho
      right
      refine ⟨h1, h2, hle, ?_⟩
      rw [e1, e2]
      rfl
  · exact .inl rfl
theorem ok_att {s : Agr} (h : AW s) (hf : few s) (hp : s.prop ≠ []) : AW (attA s) ∧ few (attA s) ∧ (attA s).view = s.view ∧ (attA s).self = s.self := by
  rcases att_cases h with e | ⟨h1, h2, h3, e⟩
  · rw [e]
    exact ⟨h, hf, rfl, rfl⟩
  · rw [e]
    obtain ⟨a1, a2, a3, a4, _⟩ := ok_adv (aw_att h hp h1 h2 h3)
    exact ⟨a1, a2, a3, a4⟩
theorem wait_in {s : Agr} (h : AW s) : 0 ≤ waitA s ∧ waitA s ≤ 1099511627776 := by
  have h0 := h.w0
  have h1 := h.w1
  unfold waitA
  rw [wrap_i64 (by omega) (by omega)]
  split <;> omega
theorem aw_wait {s : Agr} (h : AW s) {w : Int} (h0 : 0 ≤ w) (h1 : w ≤ 1099511627776) : AW { s with wait := w } :=
  ⟨h.v, h.self, h0, h1, h.acc, h.pro, h.rk, h.acut, h.prop, h.cho, h.dec, h.box, h.own, h.reps, h.rpr, h.accs, h.apr, h.rank, h.ph⟩
theorem ok_step {s : Agr} (h : AW s) (hf : few s) : AW (stepA s) ∧ few (stepA s) ∧ (stepA s).view = s.view ∧ (stepA s).self = s.self := by
  have hw := wait_in h
  have h1 := aw_wait h hw.1 hw.2
  unfold stepA
  by_cases h6 : decide (0 < (s.prop.length : Int)) = true
  · rw [if_pos h6]
    by_cases h7 : dueB s = true
    · rw [if_pos h7]
      exact ok_att h1 hf (len1.1 h6)
    · rw [if_neg h7]
      exact ⟨h1, hf, rfl, rfl⟩
  · rw [if_neg h6]
    exact ⟨h, hf, rfl, rfl⟩
theorem nice_tick {s : Agr} (h : AW s) (hf : few s) : Nice s (tickA s) := by
  have hb : agrB s = true := (agr_iff s).2 ⟨h, hf⟩
  unfold tickA
  rw [if_neg (by rw [hb]; simp)]
  by_cases h5 : decide (0 < (s.dec.length : Int)) = true
  · rw [if_pos h5]
    refine ⟨h, hf, rfl, rfl, fun p hp => ?_⟩
    rcases List.mem_singleton.1 hp with rfl
    exact pk_dec h (good_app h.dec (len1.1 h5))
  · rw [if_neg h5]
    obtain ⟨a1, a2, a3, a4⟩ := ok_step h hf
    refine nice_end (x := (stepA s, rsdA (stepA s))) ⟨a1, a2, a3, a4, fun p hp => ?_⟩
    have := nice_rsd a1 p hp
    exact ⟨by rw [← a3]; exact this.vm, by rw [← a4]; exact this.src, by rw [← a4]; exact this.ne, by rw [← a3]; exact this.to⟩
theorem box_no {s : Agr} (h : AW s) (hp : s.prop = []) : ∀ b ∈ s.box, b.mem ≠ s.self := fun b hb he => by
  have h1 := (own_iff h.v h.box).1 h.own b hb he
  rw [hp] at h1
  exact app_ne (((box_iff h.v).1 h.box).1 b hb).2 h1
theorem prop_cases {s : Agr} (h : AW s) (hf : few s) {cut : List Int} (hok : (propA s cut).2.2 = 0) : s.prop = [] ∧ s.dec = [] ∧ appB s.view cut = true ∧
    (((voteR s.acc cut).2 = true ∧ s.acc.pro = 0 ∧ s.acc.rank = -1 ∧ boxB s.view (insB s.box ⟨s.self, cut⟩) = true ∧ ((propA s cut).1, (propA s cut).2.1) = endA { s with prop := cut, wait := 0, acc := ⟨0, 0, cut⟩, box := insB s.box ⟨s.self, cut⟩ } [pktOf s 0 1 0 0 cut]) ∨
     ((voteR s.acc cut).2 = false ∧ ((propA s cut).1, (propA s cut).2.1) = endA { s with prop := cut, wait := 0 } [])) := by
  have hb : agrB s = true := (agr_iff s).2 ⟨h, hf⟩
  unfold propA at hok ⊢
  cases h1 : !agrB s || !appB s.view cut
  · rw [h1, cond_false] at hok
    rw [cond_false]
    simp only [Bool.or_eq_false_iff, Bool.not_eq_false'] at h1
    cases h2 : decide (0 < (s.prop.length : Int)) || decide (0 < (s.dec.length : Int))
    · rw [cond_false]
      rw [Bool.or_eq_false_iff] at h2
      have hp := len1f.1 h2.1
      refine ⟨hp, len1f.1 h2.2, h1.2, ?_⟩
      cases hv : (voteR s.acc cut).2
      · exact .inr ⟨rfl, rfl⟩
      · left
        obtain ⟨v1, v2, v3, v4⟩ := vote_ok h.acc hv
        have hn := box_no h hp
        have hc : castR s.view s.box ⟨s.self, cut⟩ = (insB s.box ⟨s.self, cut⟩, 0) := by
          unfold castR
          have h3 : decide (0 ≤ ofBal s.box s.self) = false := by
            cases h4 : decide (0 ≤ ofBal s.box s.self)
            · rfl
            · obtain ⟨b, hb, he⟩ := ofb_pos h4
              exact absurd he (hn b hb)
          simp only [h.box, h1.2, h.self, h3]
          rfl
        refine ⟨rfl, v1, v2, box_ins h.v h.box h1.2 h.self hn, ?_⟩
        rw [cond_true, hc, v4]
    · rw [h2] at hok
      simp at hok
  · rw [h1] at hok
    simp at hok
theorem nice_prop {s : Agr} (h : AW s) (hf : few s) {cut : List Int} (hok : (propA s cut).2.2 = 0) : Nice s ((propA s cut).1, (propA s cut).2.1) := by
  obtain ⟨hp, hd, hc, hcase⟩ := prop_cases h hf hok
  have h0 : s.phase = 0 ∧ s.reps = [] ∧ s.cho = [] := by
    rcases h.ph with h0 | h0
    · exact h0
    · exact absurd hp h0.2.2.1
  have hn := box_no h hp
  have hf2 : ∀ t : Agr, t.phase = s.phase → few t := fun t ht e => by
    rw [ht] at e
    omega
  rcases hcase with ⟨_, p1, p2, hb, e⟩ | ⟨_, e⟩
  · rw [e]
    have hA : AW { s with prop := cut, wait := 0, acc := ⟨0, 0, cut⟩, box := insB s.box ⟨s.self, cut⟩ } := ⟨h.v, h.self, Int.le_refl _, (by show (0 : Int) ≤ _; omega), (accB_iff _).2 ⟨.inl rfl, Int.le_refl _, .inr ⟨.inl rfl, by simp, app_ids (of_decide_eq_true hc)⟩⟩, (fun e => absurd rfl e), (fun e => absurd e (Int.lt_irrefl _)), good_iff.2 (.inr hc), good_iff.2 (.inr hc), h.cho, h.dec, hb, (own_iff h.v hb).2 (fun b hb2 he => by
      rcases insB_mem hb2 with rfl | hb2
      · rfl
      · exact absurd he (hn b hb2)), h.reps, h.rpr, h.accs, h.apr, h.rank, .inl h0⟩
    refine nice_end (x := ({ s with prop := cut, wait := 0, acc := ⟨0, 0, cut⟩, box := insB s.box ⟨s.self, cut⟩ }, [pktOf s 0 1 0 0 cut])) ⟨hA, hf2 _ rfl, rfl, rfl, fun p hp2 => ?_⟩
    rcases List.mem_singleton.1 hp2 with rfl
    exact pk_vote h hc
  · rw [e]
    have hA : AW { s with prop := cut, wait := 0 } := ⟨h.v, h.self, Int.le_refl _, (by show (0 : Int) ≤ _; omega), h.acc, h.pro, h.rk, h.acut, good_iff.2 (.inr hc), h.cho, h.dec, h.box, (own_iff h.v h.box).2 (fun b hb2 he => absurd he (hn b hb2)), h.reps, h.rpr, h.accs, h.apr, h.rank, .inl h0⟩
    exact nice_end (x := ({ s with prop := cut, wait := 0 }, [])) ⟨hA, hf2 _ rfl, rfl, rfl, by simp⟩
end Go.Proofs.Ytmbniilpgbjcfaa

set_option maxRecDepth 100000
namespace Go.Proofs.Ytmbniilpgbjcfaa
open Go.Lift
theorem sub_app {α : Type} [DecidableEq α] {m k S : List α} (hm : m.Nodup) (hk : k.Nodup) (hms : ∀ x ∈ m, x ∈ S) (hks : ∀ x ∈ k, x ∈ S) : m.length + k.length ≤ S.length + (k.filter fun x => decide (x ∈ m)).length := by
  have h1 : (m ++ k.filter fun x => !decide (x ∈ m)).Nodup := by
    rw [List.nodup_append]
    refine ⟨hm, hk.sublist List.filter_sublist, fun a ha b hb e => ?_⟩
    subst e
    have := (List.mem_filter.1 hb).2
    simp [ha] at this
  have h2 := nodup_len h1 (b := S) (fun x hx => by
    rcases List.mem_append.1 hx with hx | hx
    · exact hms x hx
    · exact hks x (List.mem_filter.1 hx).1)
  rw [List.length_append] at h2
  have h3 : ∀ l : List α, (l.filter fun x => decide (x ∈ m)).length + (l.filter fun x => !decide (x ∈ m)).length = l.length := fun l => by
    induction l with
    | nil => rfl
    | cons x l ih =>
      rw [List.filter_cons, List.filter_cons]
      cases decide (x ∈ m) <;> simp <;> omega
  have := h3 k
  omega
theorem meet {α : Type} [DecidableEq α] {m k S : List α} (hm : m.Nodup) (hk : k.Nodup) (hms : ∀ x ∈ m, x ∈ S) (hks : ∀ x ∈ k, x ∈ S) (h : S.length < m.length + k.length) : ∃ x, x ∈ m ∧ x ∈ k := by
  have := sub_app hm hk hms hks
  obtain ⟨x, hx⟩ := List.exists_mem_of_length_pos (l := k.filter fun x => decide (x ∈ m)) (by omega)
  have h2 := List.mem_filter.1 hx
  exact ⟨x, of_decide_eq_true h2.2, h2.1⟩
theorem filter_map_len {α β : Type} (f : α → β) (p : β → Bool) : ∀ l : List α, ((l.map f).filter p).length = (l.filter fun x => p (f x)).length
  | [] => rfl
  | x :: l => by
    rw [List.map_cons, List.filter_cons, List.filter_cons]
    have ih := filter_map_len f p l
    cases p (f x) <;> simp [ih]
theorem filter_mono {α : Type} {p q : α → Bool} : ∀ {l : List α}, (∀ x ∈ l, p x = true → q x = true) → (l.filter p).length ≤ (l.filter q).length
  | [], _ => Nat.le_refl _
  | x :: l, h => by
    have ih := filter_mono (p := p) (q := q) (l := l) (fun y hy => h y (List.mem_cons_of_mem _ hy))
    have hx := h x (List.mem_cons_self ..)
    rw [List.filter_cons, List.filter_cons]
    cases hp : p x <;> cases hq : q x <;> simp_all <;> omega
structure Gh where
  V : Int → List Int → Prop
  A : Int → Int → List Int → Prop
  C : Int → List Int → Prop
  P : List Int → Prop
  pro : Int → Int
structure QOk (g : Gh) (a r last : Int) (cut : List Int) : Prop where
  pro : r ≤ g.pro a
  le : last ≤ r
  none : last = -1 → ∀ c, ¬ g.V a c
  zero : last = 0 → g.V a cut
  pos : 0 < last → g.A a last cut
  top : ∀ r' c, g.A a r' c → r' < r → r' ≤ last
def ChOk (v : View) (g : Gh) (r : Int) (c : List Int) : Prop :=
  ∃ l : List Rpt, (l.map (·.mem)).Nodup ∧ (∀ x ∈ l, x.mem ∈ v.mem ∧ QOk g x.mem r x.rank x.cut ∧ x.rank < r ∧ (x.rank = -1 ∨ 0 ≤ x.rank)) ∧ v.mem.length / 2 + 1 ≤ l.length ∧
    ((∃ x ∈ l, 0 < x.rank ∧ c = x.cut ∧ ∀ y ∈ l, y.rank ≤ x.rank) ∨
     (∀ x ∈ l, x.rank ≤ 0) ∧ ∀ y : List Int, v.mem.length - (v.mem.length - 1) / 4 + l.length ≤ v.mem.length + (l.filter fun r => decide (r.rank = 0) && decide (r.cut = y)).length → c = y)
structure GInv (v : View) (g : Gh) : Prop where
  v1 : ∀ a c c', g.V a c → g.V a c' → c = c'
  v2 : ∀ a c, g.V a c → g.P c
  a1 : ∀ a r c, g.A a r c → g.C r c ∧ r ≤ g.pro a
  c1 : ∀ r c c', g.C r c → g.C r c' → c = c'
  c2 : ∀ r c, g.C r c → 0 < r ∧ ChOk v g r c ∧ g.P c
structure Quo (v : View) (m : List Int) : Prop where
  nd : m.Nodup
  sub : ∀ x ∈ m, x ∈ v.mem
def MajD (v : View) (g : Gh) (r : Int) (c : List Int) : Prop := ∃ m, Quo v m ∧ v.mem.length / 2 + 1 ≤ m.length ∧ ∀ a ∈ m, g.A a r c
def FastD (v : View) (g : Gh) (c : List Int) : Prop := ∃ m, Quo v m ∧ v.mem.length - (v.mem.length - 1) / 4 ≤ m.length ∧ ∀ a ∈ m, g.V a c
def Dec (v : View) (g : Gh) (c : List Int) : Prop := FastD v g c ∨ ∃ r, MajD v g r c
section
variable {v : View} {g : Gh}
theorem maj_mem {r : Int} {c : List Int} (h : MajD v g r c) : ∃ a, g.A a r c := by
  obtain ⟨m, _, hl, ha⟩ := h
  obtain ⟨x, hx⟩ := List.exists_mem_of_length_pos (l := m) (by omega)
  exact ⟨x, ha x hx⟩
theorem maj_same (hI : GInv v g) : ∀ (N : Nat) (r r' : Int) (c c' : List Int), r.toNat ≤ N → g.C r c → MajD v g r' c' → r' < r → c = c' := by
  intro N
  induction N with
  | zero =>
    intro r r' c c' hN hC _ _
    have := (hI.c2 r c hC).1
    omega
  | succ N ih =>
    intro r r' c c' hN hC hM hlt
    obtain ⟨hr, ⟨l, hnd, hl, hmaj, hfrom⟩, _⟩ := hI.c2 r c hC
    obtain ⟨a0, ha0⟩ := maj_mem hM
    have hC' := (hI.a1 _ _ _ ha0).1
    have hr' := (hI.c2 _ _ hC').1
    have hM2 := hM
    obtain ⟨m, hq, hm, hA⟩ := hM2
    obtain ⟨y, hy1, hy2⟩ := meet hq.nd hnd hq.sub (fun x hx => by
      obtain ⟨z, hz, rfl⟩ := List.mem_map.1 hx
      exact (hl z hz).1) (by rw [List.length_map]; omega)
    obtain ⟨z, hz, rfl⟩ := List.mem_map.1 hy2
    have htop := (hl z hz).2.1.top r' c' (hA _ hy1) hlt
    rcases hfrom with ⟨x, hx, hx0, hcx, hmax⟩ | ⟨hle, _⟩
    · have hxA := (hl x hx).2.1.pos hx0
      have hxC := (hI.a1 _ _ _ hxA).1
      have hxr := (hl x hx).2.2.1
      have hzm := hmax z hz
      rw [hcx]
      rcases Int.lt_or_eq_of_le (show r' ≤ x.rank by omega) with h1 | h1
      · exact ih x.rank r' x.cut c' (by omega) hxC hM h1
      · subst h1
        exact hI.c1 _ _ _ hxC hC'
    · have := hle z hz
      omega
theorem fast_same (hI : GInv v g) {y : List Int} (hF : FastD v g y) : ∀ (N : Nat) (r : Int) (c : List Int), r.toNat ≤ N → g.C r c → c = y := by
  intro N
  induction N with
  | zero =>
    intro r c hN hC
    have := (hI.c2 r c hC).1
    omega
  | succ N ih =>
    intro r c hN hC
    obtain ⟨hr, ⟨l, hnd, hl, hmaj, hfrom⟩, _⟩ := hI.c2 r c hC
    rcases hfrom with ⟨x, hx, hx0, hcx, hmax⟩ | ⟨hle, hall⟩
    · have hxA := (hl x hx).2.1.pos hx0
      have hxC := (hI.a1 _ _ _ hxA).1
      have hxr := (hl x hx).2.2.1
      rw [hcx]
      exact ih x.rank x.cut (by omega) hxC
    · obtain ⟨m, hq, hm, hV⟩ := hF
      refine hall y ?_
      have h1 := sub_app hq.nd hnd hq.sub (fun x hx => by
        obtain ⟨z, hz, rfl⟩ := List.mem_map.1 hx
        exact (hl z hz).1)
      rw [filter_map_len, List.length_map] at h1
      have h2 := filter_mono (l := l) (p := fun x => decide (x.mem ∈ m)) (q := fun r => decide (r.rank = 0) && decide (r.cut = y)) (fun x hx hp => by
        have hp := of_decide_eq_true hp
        have hv := hV _ hp
        obtain ⟨_, hQ, _, h4⟩ := hl x hx
        have h5 := hle x hx
        rcases h4 with h4 | h4
        · exact absurd hv (hQ.none h4 y)
        · have h6 : x.rank = 0 := by omega
          rw [Bool.and_eq_true]
          exact ⟨decide_eq_true h6, decide_eq_true (hI.v1 _ _ _ (hQ.zero h6) hv)⟩)
      omega
theorem dec_same (hn : 1 ≤ v.mem.length) (hI : GInv v g) {y y' : List Int} (h : Dec v g y) (h' : Dec v g y') : y = y' := by
  have key : ∀ {y y' : List Int} {r : Int}, FastD v g y → MajD v g r y' → y = y' := fun {y y' r} hF hM => by
    obtain ⟨a, ha⟩ := maj_mem hM
    exact (fast_same hI hF _ r y' (Nat.le_refl _) (hI.a1 _ _ _ ha).1).symm
  rcases h with hF | ⟨r, hM⟩
  · rcases h' with hF' | ⟨r', hM'⟩
    · obtain ⟨m, hq, hm, hV⟩ := hF
      obtain ⟨k, hq', hk, hV'⟩ := hF'
      obtain ⟨x, hx1, hx2⟩ := meet hq.nd hq'.nd hq.sub hq'.sub (by omega)
      exact hI.v1 _ _ _ (hV x hx1) (hV' x hx2)
    · exact key hF hM'
  · rcases h' with hF' | ⟨r', hM'⟩
    · exact (key hF' hM).symm
    · obtain ⟨a, ha⟩ := maj_mem hM
      obtain ⟨a', ha'⟩ := maj_mem hM'
      have hC := (hI.a1 _ _ _ ha).1
      have hC' := (hI.a1 _ _ _ ha').1
      rcases Int.lt_trichotomy r r' with hlt | he | hlt
      · exact (maj_same hI _ r' r y' y (Nat.le_refl _) hC' hM hlt).symm
      · subst he
        exact hI.c1 _ _ _ hC hC'
      · exact maj_same hI _ r r' y y' (Nat.le_refl _) hC hM' hlt
end
structure Ext (g g' : Gh) : Prop where
  v : ∀ a c, g.V a c → g'.V a c
  a : ∀ a r c, g.A a r c → g'.A a r c
  c : ∀ r c, g.C r c → g'.C r c
  p : ∀ c, g.P c → g'.P c
  pro : ∀ a, g.pro a ≤ g'.pro a
  vb : ∀ a c, g'.V a c → g.V a c ∨ g.pro a ≤ 0
  ab : ∀ a r c, g'.A a r c → g.A a r c ∨ g.pro a ≤ r
theorem ext_refl (g : Gh) : Ext g g := ⟨fun _ _ h => h, fun _ _ _ h => h, fun _ _ h => h, fun _ h => h, fun _ => Int.le_refl _, fun _ _ h => .inl h, fun _ _ _ h => .inl h⟩
theorem ext_trans {g g' g'' : Gh} (h : Ext g g') (h' : Ext g' g'') : Ext g g'' :=
  ⟨fun a c x => h'.v a c (h.v a c x), fun a r c x => h'.a a r c (h.a a r c x), fun r c x => h'.c r c (h.c r c x), fun c x => h'.p c (h.p c x), fun a => Int.le_trans (h.pro a) (h'.pro a), fun a c x => by
    rcases h'.vb a c x with x | x
    · exact h.vb a c x
    · exact .inr (Int.le_trans (h.pro a) x), fun a r c x => by
    rcases h'.ab a r c x with x | x
    · exact h.ab a r c x
    · exact .inr (Int.le_trans (h.pro a) x)⟩
theorem qok_ext {g g' : Gh} (h : Ext g g') {a r last : Int} {cut : List Int} (hr : 0 < r) (q : QOk g a r last cut) : QOk g' a r last cut :=
  ⟨Int.le_trans q.pro (h.pro a), q.le, fun e c x => by
    rcases h.vb a c x with x | x
    · exact q.none e c x
    · have := q.pro
      omega, fun e => h.v _ _ (q.zero e), fun e => h.a _ _ _ (q.pos e), fun r' c x hlt => by
    rcases h.ab a r' c x with x | x
    · exact q.top r' c x hlt
    · have := q.pro
      omega⟩
theorem cho_ext {v : View} {g g' : Gh} (h : Ext g g') {r : Int} {c : List Int} (hr : 0 < r) (q : ChOk v g r c) : ChOk v g' r c := by
  obtain ⟨l, h1, h2, h3, h4⟩ := q
  exact ⟨l, h1, fun x hx => ⟨(h2 x hx).1, qok_ext h hr (h2 x hx).2.1, (h2 x hx).2.2⟩, h3, h4⟩
theorem dec_ext {v : View} {g g' : Gh} (h : Ext g g') {c : List Int} (hd : Dec v g c) : Dec v g' c := by
  rcases hd with ⟨m, hq, hm, hV⟩ | ⟨r, m, hq, hm, hA⟩
  · exact .inl ⟨m, hq, hm, fun a ha => h.v _ _ (hV a ha)⟩
  · exact .inr ⟨r, m, hq, hm, fun a ha => h.a _ _ _ (hA a ha)⟩
structure StepOf (a : Int) (g g' : Gh) : Prop where
  ext : Ext g g'
  pro : ∀ b, b ≠ a → g'.pro b = g.pro b
  vb : ∀ b c, b ≠ a → g'.V b c → g.V b c
  ab : ∀ b r c, b ≠ a → g'.A b r c → g.A b r c
  cb : ∀ r c, g'.C r c → g.C r c ∨ ownerOf r = a
theorem step_refl (a : Int) (g : Gh) : StepOf a g g := ⟨ext_refl g, fun _ _ => rfl, fun _ _ _ h => h, fun _ _ _ _ h => h, fun _ _ h => .inl h⟩
theorem step_trans {a : Int} {g g' g'' : Gh} (h : StepOf a g g') (h' : StepOf a g' g'') : StepOf a g g'' :=
  ⟨ext_trans h.ext h'.ext, fun b hb => (h'.pro b hb).trans (h.pro b hb), fun b c hb x => h.vb b c hb (h'.vb b c hb x), fun b r c hb x => h.ab b r c hb (h'.ab b r c hb x), fun r c x => by
    rcases h'.cb r c x with x | x
    · exact h.cb r c x
    · exact .inr x⟩
section
variable {v : View} {g : Gh} {a r : Int} {c : List Int}
def gVote (g : Gh) (a : Int) (c : List Int) : Gh := { g with V := fun b d => g.V b d ∨ (b = a ∧ d = c) }
theorem g_vote (hI : GInv v g) (hp : g.pro a ≤ 0) (hv : ∀ d, ¬ g.V a d) (hP : g.P c) : GInv v (gVote g a c) ∧ StepOf a g (gVote g a c) := by
  have hE : Ext g (gVote g a c) := ⟨fun _ _ h => .inl h, fun _ _ _ h => h, fun _ _ h => h, fun _ h => h, fun _ => Int.le_refl _, fun b d h => by
    rcases h with h | ⟨rfl, rfl⟩
    · exact .inl h
    · exact .inr hp, fun _ _ _ h => .inl h⟩
  refine ⟨⟨fun b d d' h h' => ?_, fun b d h => ?_, hI.a1, hI.c1, fun r d h => ⟨(hI.c2 r d h).1, cho_ext hE (hI.c2 r d h).1 (hI.c2 r d h).2.1, (hI.c2 r d h).2.2⟩⟩, ⟨hE, fun _ _ => rfl, fun b d hb h => ?_, fun _ _ _ _ h => h, fun _ _ h => .inl h⟩⟩
  · rcases h with h | ⟨rfl, rfl⟩
    · rcases h' with h' | ⟨rfl, rfl⟩
      · exact hI.v1 _ _ _ h h'
      · exact absurd h (hv d)
    · rcases h' with h' | ⟨_, rfl⟩
      · exact absurd h' (hv d')
      · rfl
  · rcases h with h | ⟨rfl, rfl⟩
    · exact hI.v2 _ _ h
    · exact hP
  · rcases h with h | ⟨rfl, rfl⟩
    · exact h
    · exact absurd rfl hb
def gPro (g : Gh) (a r : Int) : Gh := { g with pro := fun b => if b = a then r else g.pro b }
theorem gpro_at (g : Gh) (a r : Int) : (gPro g a r).pro a = r := if_pos rfl
theorem ext_pro (hle : g.pro a ≤ r) : Ext g (gPro g a r) := ⟨fun _ _ h => h, fun _ _ _ h => h, fun _ _ h => h, fun _ h => h, fun b => by
  show g.pro b ≤ if b = a then r else g.pro b
  split
  · rename_i e
    rw [e]
    exact hle
  · exact Int.le_refl _, fun _ _ h => .inl h, fun _ _ _ h => .inl h⟩
theorem g_pro (hI : GInv v g) (hle : g.pro a ≤ r) : GInv v (gPro g a r) ∧ StepOf a g (gPro g a r) := by
  have hE := ext_pro (g := g) hle
  exact ⟨⟨hI.v1, hI.v2, fun b q d h => ⟨(hI.a1 b q d h).1, Int.le_trans (hI.a1 b q d h).2 (hE.pro b)⟩, hI.c1, fun q d h => ⟨(hI.c2 q d h).1, cho_ext hE (hI.c2 q d h).1 (hI.c2 q d h).2.1, (hI.c2 q d h).2.2⟩⟩,
    ⟨hE, fun b hb => if_neg hb, fun _ _ _ h => h, fun _ _ _ _ h => h, fun _ _ h => .inl h⟩⟩
def gCho (g : Gh) (r : Int) (c : List Int) : Gh := { g with C := fun q d => g.C q d ∨ (q = r ∧ d = c) }
theorem g_cho (hI : GInv v g) (hr : 0 < r) (ho : ownerOf r = a) (hno : ∀ d, ¬ g.C r d) (hc : ChOk v g r c) (hP : g.P c) : GInv v (gCho g r c) ∧ StepOf a g (gCho g r c) := by
  have hE : Ext g (gCho g r c) := ⟨fun _ _ h => h, fun _ _ _ h => h, fun _ _ h => .inl h, fun _ h => h, fun _ => Int.le_refl _, fun _ _ h => .inl h, fun _ _ _ h => .inl h⟩
  refine ⟨⟨hI.v1, hI.v2, fun b q d h => ⟨.inl (hI.a1 b q d h).1, (hI.a1 b q d h).2⟩, fun q d d' h h' => ?_, fun q d h => ?_⟩, ⟨hE, fun _ _ => rfl, fun _ _ _ h => h, fun _ _ _ _ h => h, fun q d h => ?_⟩⟩
  · rcases h with h | ⟨rfl, rfl⟩
    · rcases h' with h' | ⟨rfl, rfl⟩
      · exact hI.c1 _ _ _ h h'
      · exact absurd h (hno d)
    · rcases h' with h' | ⟨_, rfl⟩
      · exact absurd h' (hno d')
      · rfl
  · rcases h with h | ⟨rfl, rfl⟩
    · exact ⟨(hI.c2 q d h).1, cho_ext hE (hI.c2 q d h).1 (hI.c2 q d h).2.1, (hI.c2 q d h).2.2⟩
    · exact ⟨hr, cho_ext hE hr hc, hP⟩
  · rcases h with h | ⟨rfl, rfl⟩
    · exact .inl h
    · exact .inr ho
def gAcc (g : Gh) (a r : Int) (c : List Int) : Gh := { g with A := fun b q d => g.A b q d ∨ (b = a ∧ q = r ∧ d = c), pro := fun b => if b = a then r else g.pro b }
theorem g_acc (hI : GInv v g) (hle : g.pro a ≤ r) (hC : g.C r c) : GInv v (gAcc g a r c) ∧ StepOf a g (gAcc g a r c) := by
  have hpr : ∀ b, g.pro b ≤ (gAcc g a r c).pro b := (ext_pro (g := g) hle).pro
  have hE : Ext g (gAcc g a r c) := ⟨fun _ _ h => h, fun _ _ _ h => .inl h, fun _ _ h => h, fun _ h => h, hpr, fun _ _ h => .inl h, fun b q d h => by
    rcases h with h | ⟨rfl, rfl, rfl⟩
    · exact .inl h
    · exact .inr hle⟩
  refine ⟨⟨hI.v1, hI.v2, fun b q d h => ?_, hI.c1, fun q d h => ⟨(hI.c2 q d h).1, cho_ext hE (hI.c2 q d h).1 (hI.c2 q d h).2.1, (hI.c2 q d h).2.2⟩⟩, ⟨hE, fun b hb => if_neg hb, fun _ _ _ h => h, fun b q d hb h => ?_, fun _ _ h => .inl h⟩⟩
  · rcases h with h | ⟨rfl, rfl, rfl⟩
    · exact ⟨(hI.a1 b q d h).1, Int.le_trans (hI.a1 b q d h).2 (hpr b)⟩
    · refine ⟨hC, ?_⟩
      show q ≤ if b = b then q else g.pro b
      rw [if_pos rfl]
      exact Int.le_refl _
  · rcases h with h | ⟨rfl, rfl, rfl⟩
    · exact h
    · exact absurd rfl hb
def gPr (g : Gh) (c : List Int) : Gh := { g with P := fun d => g.P d ∨ d = c }
theorem g_prop (hI : GInv v g) (a : Int) : GInv v (gPr g c) ∧ StepOf a g (gPr g c) := by
  have hE : Ext g (gPr g c) := ⟨fun _ _ h => h, fun _ _ _ h => h, fun _ _ h => h, fun _ h => .inl h, fun _ => Int.le_refl _, fun _ _ h => .inl h, fun _ _ _ h => .inl h⟩
  exact ⟨⟨hI.v1, fun b d h => .inl (hI.v2 b d h), hI.a1, hI.c1, fun q d h => ⟨(hI.c2 q d h).1, cho_ext hE (hI.c2 q d h).1 (hI.c2 q d h).2.1, .inl (hI.c2 q d h).2.2⟩⟩,
    ⟨hE, fun _ _ => rfl, fun _ _ _ h => h, fun _ _ _ _ h => h, fun _ _ h => .inl h⟩⟩
end
end Go.Proofs.Ytmbniilpgbjcfaa

set_option maxRecDepth 100000
namespace Go.Proofs.Ytmbniilpgbjcfaa
open Go.Lift
theorem hi_max (l : List Rpt) : ∀ i, i ≤ l.length → ∀ j, (hj : j < l.length) → j < i → l[j].rank ≤ (l.getD (hiAt l i) rpt0).rank
  | 0, _, j, _, h => absurd h (Nat.not_lt_zero _)
  | i + 1, hi, j, hj, hji => by
    have ih := hi_max l i (by omega)
    have hlt : i < l.length := by omega
    have hg : l.getD i rpt0 = l[i] := by simp [hlt]
    rw [hi_succ, hg]
    by_cases hc : (l.getD (hiAt l i) rpt0).rank < l[i].rank
    · rw [decide_eq_true hc]
      show l[j].rank ≤ (l.getD i rpt0).rank
      rw [hg]
      rcases Nat.lt_succ_iff_lt_or_eq.1 hji with h | rfl
      · have := ih j hj h
        omega
      · exact Int.le_refl _
    · rw [decide_eq_false hc]
      show l[j].rank ≤ (l.getD (hiAt l i) rpt0).rank
      rcases Nat.lt_succ_iff_lt_or_eq.1 hji with h | rfl
      · exact ih j hj h
      · omega
def votesO (l : List Rpt) (y : List Int) : Nat := (l.filter fun r => decide (r.rank = 0) && decide (r.cut = y)).length
theorem votes_box (l : List Rpt) (y : List Int) : votesN (boxOf l) y = votesO l y := by
  unfold votesN boxOf votesO
  rw [List.filter_map, List.length_map, List.filter_filter]
  congr 1
  apply List.filter_congr
  intro r _
  show (sameI r.cut y && decide (r.rank = 0)) = _
  rw [Bool.and_comm]
  congr 1
  rw [Bool.eq_iff_iff, sameI_iff, decide_eq_true_eq]
theorem choose_facts {v : View} (hv : viewB v = true) {l : List Rpt} (hl16 : l.length ≤ 16) {own : List Int} (ho : own ≠ []) (h0 : gateB v l own = false) :
    v.mem.length / 2 + 1 ≤ l.length ∧
    ((∃ r ∈ l, 0 < r.rank ∧ (chooseR v l own).1 = r.cut ∧ ∀ r' ∈ l, r'.rank ≤ r.rank) ∨
    (∀ r ∈ l, r.rank ≤ 0) ∧ ∀ y : List Int, v.mem.length - (v.mem.length - 1) / 4 + l.length ≤ v.mem.length + (l.filter fun r => decide (r.rank = 0) && decide (r.cut = y)).length → (chooseR v l own).1 = y) := by
  have hn := view_n hv
  have hg := h0
  simp only [gateB, Bool.or_eq_false_iff, Bool.not_eq_false', decide_eq_false_iff_not] at hg
  obtain ⟨⟨hr, hm⟩, _⟩ := hg
  rw [maj_n hv] at hm
  have hpos := (gate_pos h0).1
  have hlt := hiAt_lt l hpos
  have hgh : l.getD (hiAt l l.length) rpt0 = l[hiAt l l.length] := by simp [hlt]
  have hmax := hi_max l l.length (Nat.le_refl _)
  refine ⟨by omega, ?_⟩
  cases h1 : decide (0 < (l.getD (hiAt l l.length) rpt0).rank) with
  | true =>
    left
    rw [choose_hi h0 h1]
    rw [hgh] at h1 hmax ⊢
    refine ⟨l[hiAt l l.length], List.getElem_mem hlt, of_decide_eq_true h1, rfl, fun r' hr' => ?_⟩
    obtain ⟨j, hj, rfl⟩ := List.getElem_of_mem hr'
    exact hmax j hj hj
  | false =>
    right
    have h1' := of_decide_eq_false h1
    refine ⟨fun r hr' => ?_, fun y hy => ?_⟩
    · obtain ⟨j, hj, rfl⟩ := List.getElem_of_mem hr'
      have := hmax j hj hj
      omega
    · have hy : v.mem.length - (v.mem.length - 1) / 4 + l.length ≤ v.mem.length + votesO l y := hy
      have hthr : thrB v l = ((v.mem.length - (v.mem.length - 1) / 4 : Nat) : Int) + (l.length : Int) - (v.mem.length : Int) := by
        unfold thrB
        rw [fast_n hv, wrap_i64 (n := (((v.mem.length - (v.mem.length - 1) / 4 : Nat) : Int) + (l.length : Int))) (by omega) (by omega), wrap_i64 (by omega) (by omega)]
      cases hf : l.find? (fastQ v l) with
      | none =>
        exfalso
        have hvp : 0 < votesO l y := by omega
        obtain ⟨r, hrm⟩ := List.exists_mem_of_length_pos hvp
        rw [List.mem_filter, Bool.and_eq_true, decide_eq_true_eq, decide_eq_true_eq] at hrm
        have hq := List.find?_eq_none.1 hf r hrm.1
        refine hq ?_
        unfold fastQ
        rw [decide_eq_true hrm.2.1, votes_box, hrm.2.2, Bool.true_and, decide_eq_true_eq, hthr]
        omega
      | some r =>
        obtain ⟨hq, i, hi, he, hall⟩ := List.find?_eq_some_iff_getElem.1 hf
        subst he
        rw [choose_fast h0 h1 hi hq (fun j hj hji => by simpa using hall j hji)]
        show l[i].cut = y
        simp only [fastQ, Bool.and_eq_true, decide_eq_true_eq, votes_box, hthr] at hq
        by_cases hxy : l[i].cut = y
        · exact hxy
        · exfalso
          have h2 := filter_two (p := fun r : Rpt => decide (r.rank = 0) && decide (r.cut = l[i].cut)) (q := fun r : Rpt => decide (r.rank = 0) && decide (r.cut = y)) (fun x hp hq => by
            rw [Bool.and_eq_true, decide_eq_true_eq, decide_eq_true_eq] at hp hq
            exact hxy (hp.2.symm.trans hq.2)) l
          have h3 : votesO l l[i].cut + votesO l y ≤ l.length := h2
          omega
structure AcOk (g : Gh) (a : Int) (acc : Acc) : Prop where
  pro : g.pro a = acc.pro
  neg : acc.rank = -1 → ∀ c, ¬ g.V a c
  zero : acc.rank = 0 → g.V a acc.cut
  pos : 0 < acc.rank → g.A a acc.rank acc.cut
  top : ∀ r c, g.A a r c → r ≤ acc.rank
structure ReOk (v : View) (g : Gh) (s : Agr) : Prop where
  box : ∀ b ∈ s.box, g.V b.mem b.cut
  reps : s.phase = 1 → ∀ x ∈ s.reps, QOk g x.mem s.rank x.rank x.cut
  noc : s.phase = 1 → ∀ c, ¬ g.C s.rank c
  cmax : ∀ r c, g.C r c → ownerOf r = s.self → r ≤ s.rank
  cho : s.phase = 2 → g.A s.self s.rank s.cho
  accs : ∀ x ∈ s.accs, g.A x.mem x.rank x.cut
  dec : s.dec ≠ [] → Dec v g s.dec
  prop : s.prop ≠ [] → g.P s.prop
structure GOk (v : View) (g : Gh) (s : Agr) : Prop where
  ac : AcOk g s.self s.acc
  re : ReOk v g s
structure FOk (v : View) (g : Gh) (m : Msg) : Prop where
  k1 : m.kind = 1 → g.V m.src m.cut
  k3 : m.kind = 3 → QOk g m.src m.rank m.last m.cut
  k4 : m.kind = 4 ∨ m.kind = 5 → g.A m.src m.rank m.cut
  k6 : m.kind = 6 → Dec v g m.cut
theorem fok_ext {v : View} {g g' : Gh} (h : Ext g g') {m : Msg} (hv : vmB v m = true) (f : FOk v g m) : FOk v g' m :=
  ⟨fun k => h.v _ _ (f.k1 k), fun k => qok_ext h (by
    have := use_pos (proper_use ((vm_body hv).2.2.1 k).1).1
    omega) (f.k3 k), fun k => h.a _ _ _ (f.k4 k), fun k => dec_ext h (f.k6 k)⟩
theorem ph_rank {s : Agr} (h : AW s) (hp : s.phase = 1 ∨ s.phase = 2) : s.rank ≠ 0 ∧ s.prop ≠ [] ∧ 0 < s.rank ∧ ownerOf s.rank = s.self := by
  have h2 : s.rank ≠ 0 ∧ s.prop ≠ [] := by
    rcases h.ph with h0 | h0
    · omega
    · exact ⟨h0.2.1, h0.2.2.1⟩
  have := use_pos (proper_use (h.rank h2.1).1).1
  exact ⟨h2.1, h2.2, by omega, (h.rank h2.1).2⟩
theorem re_ext {v : View} {g g' : Gh} {s : Agr} (h : Ext g g') (hC : ∀ r c, g'.C r c → g.C r c) (hp : s.phase = 1 → 0 < s.rank) (q : ReOk v g s) : ReOk v g' s :=
  ⟨fun b hb => h.v _ _ (q.box b hb), fun p x hx => qok_ext h (hp p) (q.reps p x hx), fun p c x => q.noc p c (hC _ _ x), fun r c x o => q.cmax r c (hC _ _ x) o, fun p => h.a _ _ _ (q.cho p), fun x hx => h.a _ _ _ (q.accs x hx), fun p => dec_ext h (q.dec p), fun p => h.p _ (q.prop p)⟩
theorem gok_other {v : View} {g g' : Gh} {s : Agr} {a : Int} (hA : AW s) (h : StepOf a g g') (hne : s.self ≠ a) (q : GOk v g s) : GOk v g' s := by
  obtain ⟨⟨q1, q2, q3, q4, q5⟩, q⟩ := q
  refine ⟨⟨(h.pro _ hne).trans q1, fun e c x => q2 e c (h.vb _ _ hne x), fun e => h.ext.v _ _ (q3 e), fun e => h.ext.a _ _ _ (q4 e), fun r c x => q5 r c (h.ab _ _ _ hne x)⟩, ?_⟩
  refine ⟨fun b hb => h.ext.v _ _ (q.box b hb), fun p x hx => qok_ext h.ext (ph_rank hA (.inl p)).2.2.1 (q.reps p x hx), fun p c x => ?_, fun r c x o => ?_, fun p => h.ext.a _ _ _ (q.cho p), fun x hx => h.ext.a _ _ _ (q.accs x hx), fun p => dec_ext h.ext (q.dec p), fun p => h.ext.p _ (q.prop p)⟩
  · rcases h.cb _ _ x with x | x
    · exact q.noc p c x
    · exact hne ((ph_rank hA (.inl p)).2.2.2.symm.trans x)
  · rcases h.cb _ _ x with x | x
    · exact q.cmax r c x o
    · exact absurd (o.symm.trans x) hne
theorem ac_pro {g : Gh} {a r : Int} {acc : Acc} (h : AcOk g a acc) : AcOk (gPro g a r) a ⟨r, acc.rank, acc.cut⟩ := ⟨gpro_at g a r, h.neg, h.zero, h.pos, h.top⟩
theorem ac_vote {g : Gh} {a : Int} {acc : Acc} {c : List Int} (h : AcOk g a acc) (h1 : acc.pro = 0) (h2 : acc.rank = -1) : AcOk (gVote g a c) a ⟨0, 0, c⟩ :=
  ⟨h.pro.trans h1, (fun e => by
    have e : (0 : Int) = -1 := e
    omega), fun _ => .inr ⟨rfl, rfl⟩, (fun e => absurd e (Int.lt_irrefl _)), fun r d x => by
    have := h.top r d x
    show r ≤ 0
    omega⟩
theorem ac_acc {g : Gh} {a r : Int} {acc : Acc} {c : List Int} (h : AcOk g a acc) (hr : 0 < r) (hle : acc.rank ≤ r) : AcOk (gAcc g a r c) a ⟨r, r, c⟩ :=
  ⟨if_pos rfl, (fun e => by
    have e : r = -1 := e
    omega), (fun e => by
    have e : r = 0 := e
    omega), fun _ => .inr ⟨rfl, rfl, rfl⟩, fun q d x => by
    show q ≤ r
    rcases x with x | ⟨_, rfl, _⟩
    · have := h.top q d x
      omega
    · exact Int.le_refl _⟩
theorem acc_le {a : Acc} (h : accB a = true) : a.rank ≤ a.pro := ((accB_iff a).1 h).2.1
theorem q_own {g : Gh} {a r : Int} {acc : Acc} (h : AcOk g a acc) (hb : accB acc = true) (hle : acc.pro ≤ r) : QOk (gPro g a r) a r acc.rank acc.cut :=
  ⟨by rw [gpro_at]; exact Int.le_refl _, Int.le_trans (acc_le hb) hle, h.neg, h.zero, h.pos, fun q d x _ => h.top q d x⟩
theorem re_idle {v : View} {g : Gh} {s : Agr} (q : ReOk v g s) : ReOk v g (idleA s) :=
  ⟨q.box, (fun p => by
    have p : (0 : Int) = 1 := p
    omega), (fun p => by
    have p : (0 : Int) = 1 := p
    omega), q.cmax, (fun p => by
    have p : (0 : Int) = 2 := p
    omega), q.accs, q.dec, q.prop⟩
theorem re_accs {v : View} {g : Gh} {s : Agr} (q : ReOk v g s) {r : Rpt} (hr : g.A r.mem r.rank r.cut) : ReOk v g { s with accs := enterR s.view s.accs r } :=
  ⟨q.box, q.reps, q.noc, q.cmax, q.cho, fun x hx => by
    rcases enter_mem hx with rfl | hx
    · exact hr
    · exact q.accs x hx, q.dec, q.prop⟩
theorem dec_from {v : View} {g : Gh} {s : Agr} (hv : s.view = v) (hA : AW s) (q : ReOk v g s) (hn : decR s ≠ []) : Dec v g (decR s) := by
  subst hv
  unfold decR at hn ⊢
  cases hw : (winR s.view s.box).2
  · rw [hw, cond_false] at hn
    rw [cond_false]
    unfold accdR at hn ⊢
    rcases acc_mem (l := s.accs) (m := majB s.view.mem.length) s.accs.length (Nat.le_refl _) with h | ⟨r, hr, h1, h2, h3⟩
    · exact absurd h hn
    · have hp := (reps_iff hA.v).1 hA.accs
      rw [← h2]
      rw [maj_n hA.v] at h3
      unfold vA at h3
      rw [List.take_length] at h3
      refine .inr ⟨r.rank, (s.accs.filter fun x => decide (x.rank = r.rank) && sameI x.cut r.cut).map (·.mem), ⟨?_, fun x hx => ?_⟩, by rw [List.length_map]; omega, fun a ha => ?_⟩
      · unfold List.Nodup
        rw [List.pairwise_map]
        exact (hp.2.sublist List.filter_sublist).imp fun h => by omega
      · obtain ⟨z, hz, rfl⟩ := List.mem_map.1 hx
        exact in_mem (vr_in (hp.1 z (List.mem_filter.1 hz).1))
      · obtain ⟨z, hz, rfl⟩ := List.mem_map.1 ha
        obtain ⟨hz1, hz2⟩ := List.mem_filter.1 hz
        rw [Bool.and_eq_true, decide_eq_true_eq, sameI_iff] at hz2
        have := q.accs z hz1
        rw [hz2.1, hz2.2] at this
        exact this
  · rw [cond_true]
    unfold winR at hw ⊢
    have hb := hA.box
    rw [hb] at hw ⊢
    simp only [Bool.not_true, cond_false] at hw ⊢
    cases hf : s.box.find? (fun b => decide (fastB s.view.mem.length ≤ (votesN s.box b.cut : Int))) with
    | none => rw [hf] at hw; cases hw
    | some b =>
      have hq := List.find?_some hf
      simp only [decide_eq_true_eq] at hq
      have hp := (box_iff hA.v).1 hb
      rw [fast_n hA.v] at hq
      unfold votesN at hq
      refine .inl ⟨(s.box.filter fun x => sameI x.cut b.cut).map (·.mem), ⟨?_, fun x hx => ?_⟩, by rw [List.length_map]; omega, fun a ha => ?_⟩
      · unfold List.Nodup
        rw [List.pairwise_map]
        exact (hp.2.sublist List.filter_sublist).imp fun h => by omega
      · obtain ⟨z, hz, rfl⟩ := List.mem_map.1 hx
        exact in_mem (hp.1 z (List.mem_filter.1 hz).1).1
      · obtain ⟨z, hz, rfl⟩ := List.mem_map.1 ha
        obtain ⟨hz1, hz2⟩ := List.mem_filter.1 hz
        have := q.box z hz1
        rw [sameI_iff.1 hz2] at this
        exact this
theorem g_end {v : View} {g : Gh} {s : Agr} (hv : s.view = v) (hA : AW s) (q : GOk v g s) {ps : List Pkt} (hp : ∀ p ∈ ps, FOk v g p.m) : GOk v g (endA s ps).1 ∧ ∀ p ∈ (endA s ps).2, FOk v g p.m := by
  unfold endA
  cases hc : decide ((s.dec.length : Int) = 0) && decide (0 < ((decR s).length : Int))
  · exact ⟨q, hp⟩
  · rw [Bool.and_eq_true] at hc
    have hd := dec_from hv hA q.re (len1.1 hc.2)
    refine ⟨⟨q.ac, ⟨q.re.box, q.re.reps, q.re.noc, q.re.cmax, q.re.cho, q.re.accs, fun _ => hd, q.re.prop⟩⟩, fun p hx => ?_⟩
    simp only [cond_true] at hx
    rcases List.mem_append.1 hx with hx | hx
    · exact hp p hx
    · rw [List.mem_singleton.1 hx]
      exact ⟨fun k => by
        have k : (6 : Int) = 1 := k
        omega, fun k => by
        have k : (6 : Int) = 3 := k
        omega, fun k => by
        have k : (6 : Int) = 4 ∨ (6 : Int) = 5 := k
        omega, fun _ => hd⟩
end Go.Proofs.Ytmbniilpgbjcfaa

set_option maxRecDepth 100000
namespace Go.Proofs.Ytmbniilpgbjcfaa
open Go.Lift
def Res (v : View) (g : Gh) (s : Agr) (x : Agr × List Pkt) : Prop := ∃ g', GInv v g' ∧ StepOf s.self g g' ∧ (∀ c, g'.P c → g.P c) ∧ GOk v g' x.1 ∧ ∀ p ∈ x.2, FOk v g' p.m
theorem res_same {v : View} {g : Gh} {s : Agr} {x : Agr × List Pkt} (hI : GInv v g) (q : GOk v g x.1) (hp : ∀ p ∈ x.2, FOk v g p.m) : Res v g s x := ⟨g, hI, step_refl _ _, fun _ h => h, q, hp⟩
theorem no_pk {v : View} {g : Gh} : ∀ p ∈ ([] : List Pkt), FOk v g p.m := fun p hp => by cases hp
theorem res_end {v : View} {g : Gh} {s : Agr} {x : Agr × List Pkt} (hv : x.1.view = v) (hA : AW x.1) (h : Res v g s x) : Res v g s (endA x.1 x.2) := by
  obtain ⟨g', h1, h2, h3, h4, h5⟩ := h
  obtain ⟨h6, h7⟩ := g_end hv hA h4 h5
  exact ⟨g', h1, h2, h3, h6, h7⟩
theorem g_adv {v : View} {g : Gh} {s : Agr} (hI : GInv v g) (hA : AW s) (hv : s.view = v) (q : GOk v g s) : Res v g s (advA s, []) := by
  rcases adv_cases hA with ⟨_, e⟩ | ⟨h1, hg, hpr, hap, _, ⟨ha, e⟩ | ⟨ha, e⟩⟩
  · rw [e]
    exact res_same hI q no_pk
  · obtain ⟨hr0, _, hrp, how⟩ := ph_rank hA (.inl h1)
    obtain ⟨hmaj, hfrom⟩ := choose_facts hA.v (reps_16 hA.reps) hpr hg
    obtain ⟨_, hle, _, _, _⟩ := accept_ok hA.acc ha
    obtain ⟨_, hcf⟩ := choose_from hg hpr
    have hP : g.P (chooseR s.view s.reps s.prop).1 := by
      rcases hcf with hcf | ⟨r, hr, h0, hcf⟩
      · rw [hcf]
        exact q.re.prop hpr
      · rw [hcf]
        have hQ := q.re.reps h1 r hr
        rcases Int.lt_or_eq_of_le h0 with h0 | h0
        · exact (hI.c2 _ _ (hI.a1 _ _ _ (hQ.pos h0)).1).2.2
        · exact hI.v2 _ _ (hQ.zero h0.symm)
    rw [e]
    rw [hv] at hmaj hfrom hP ⊢
    generalize hC : (chooseR v s.reps s.prop).1 = C at *
    have hp := (reps_iff hA.v).1 hA.reps
    have hch : ChOk v g s.rank C := by
      refine ⟨s.reps, ?_, fun x hx => ?_, hmaj, hfrom⟩
      · unfold List.Nodup
        rw [List.pairwise_map]
        exact hp.2.imp fun h => by omega
      · have hQ := q.re.reps h1 x hx
        have hc := vr_cut (hp.1 x hx)
        have hm := in_mem (vr_in (hp.1 x hx))
        rw [hv] at hm
        refine ⟨hm, hQ, ?_, ?_⟩
        · have h2 := hQ.le
          by_cases h3 : x.rank = s.rank
          · have := (hI.a1 _ _ _ (hQ.pos (by omega))).1
            rw [h3] at this
            exact absurd this (q.re.noc h1 _)
          · omega
        · rcases hc with hc | ⟨hc | hc, _⟩
          · exact .inl hc.1
          · exact .inr (by omega)
          · have := use_pos hc
            exact .inr (by omega)
    obtain ⟨i1, s1⟩ := g_cho hI hrp how (q.re.noc h1) hch hP
    obtain ⟨i2, s2⟩ := g_acc (a := s.self) (r := s.rank) (c := C) i1 (by
      show g.pro s.self ≤ s.rank
      rw [q.ac.pro]
      exact hle) (.inr ⟨rfl, rfl⟩)
    have hX := (step_trans s1 s2).ext
    refine ⟨_, i2, step_trans s1 s2, fun _ h => h, ⟨ac_acc (g := gCho g s.rank C) ⟨q.ac.pro, q.ac.neg, q.ac.zero, q.ac.pos, q.ac.top⟩ hrp (Int.le_trans (acc_le hA.acc) hle), ?_⟩, no_pk⟩
    refine ⟨fun b hb => hX.v _ _ (q.re.box b hb), (fun p => by
      have p : (2 : Int) = 1 := p
      omega), (fun p => by
      have p : (2 : Int) = 1 := p
      omega), fun r c x o => ?_, fun _ => .inr ⟨rfl, rfl, rfl⟩, fun x hx => ?_, fun p => dec_ext hX (q.re.dec p), fun p => hX.p _ (q.re.prop p)⟩
    · rcases x with x | ⟨rfl, _⟩
      · exact q.re.cmax r c x o
      · exact Int.le_refl _
    · rcases enter_mem hx with rfl | hx
      · exact .inr ⟨rfl, rfl, rfl⟩
      · exact hX.a _ _ _ (q.re.accs x hx)
  · rw [e]
    exact res_same hI ⟨q.ac, re_idle q.re⟩ no_pk
theorem g_vote_in {v : View} {g : Gh} {s : Agr} (hI : GInv v g) (hA : AW s) (q : GOk v g s) {m : Msg} (f : FOk v g m) (hk : m.kind = 1) : Res v g s (voteA s m, []) := by
  unfold voteA
  cases hc : decide ((castR s.view s.box ⟨m.src, m.cut⟩).2 = 0)
  · exact res_same hI q no_pk
  · have h5 := (cast_ok (of_decide_eq_true hc)).2.2.2.2
    rw [cond_true, h5]
    refine res_same hI ⟨q.ac, ⟨fun b hb => ?_, q.re.reps, q.re.noc, q.re.cmax, q.re.cho, q.re.accs, q.re.dec, q.re.prop⟩⟩ no_pk
    rcases insB_mem hb with rfl | hb
    · exact f.k1 hk
    · exact q.re.box b hb
theorem g_prep {v : View} {g : Gh} {s : Agr} (hI : GInv v g) (hA : AW s) (q : GOk v g s) {m : Msg} (hm : vmB s.view m = true) (hk : m.kind = 2) : Res v g s (prepA s m) := by
  have key : ∀ (t : Agr) (ps : List Pkt) (b : Bool), Res v g s (t, ps) → Res v g s ((bif b then idleA t else t), ps) := fun t ps b h => by
    cases b
    · exact h
    · obtain ⟨g', h1, h2, h3, h4, h5⟩ := h
      exact ⟨g', h1, h2, h3, ⟨h4.ac, re_idle h4.re⟩, h5⟩
  unfold prepA
  refine key _ _ _ ?_
  cases ho : (prepR s.acc m.rank).2.2
  · exact res_same hI q no_pk
  · obtain ⟨hu, hle, e1, e2⟩ := prep_ok hA.acc ho
    rw [e1, e2]
    obtain ⟨i1, s1⟩ := g_pro (a := s.self) (r := m.rank) hI (by
      rw [q.ac.pro]
      exact hle)
    refine ⟨_, i1, s1, fun _ h => h, ⟨ac_pro q.ac, ?_⟩, fun p hp => ?_⟩
    · have := re_ext s1.ext (fun _ _ h => h) (fun p => (ph_rank hA (.inl p)).2.2.1) q.re
      exact ⟨this.box, this.reps, this.noc, this.cmax, this.cho, this.accs, this.dec, this.prop⟩
    · simp only [cond_true, List.mem_singleton] at hp
      subst hp
      exact ⟨fun k => by
        have k : (3 : Int) = 1 := k
        omega, fun _ => q_own q.ac hA.acc hle, fun k => by
        have k : (3 : Int) = 4 ∨ (3 : Int) = 5 := k
        omega, fun k => by
        have k : (3 : Int) = 6 := k
        omega⟩
theorem aw_rep {s : Agr} (h : AW s) {m : Msg} (hm : vmB s.view m = true) (hk : m.kind = 3) (hb : s.phase = 1) : AW { s with reps := (addR s.view s.reps ⟨m.src, m.last, m.cut⟩).1 } := by
  obtain ⟨hp, _, hl⟩ := (vm_body hm).2.2.1 hk
  have hph := h.ph
  rw [hb] at hph
  have hph : s.cho = [] ∧ s.rank ≠ 0 ∧ s.prop ≠ [] ∧ 0 ≤ ofB s.reps s.self := by
    rcases hph with h0 | ⟨h0 | h0, h1⟩
    · omega
    · exact ⟨h0.2, h1⟩
    · omega
  refine ⟨h.v, h.self, h.w0, h.w1, h.acc, h.pro, h.rk, h.acut, h.prop, h.cho, h.dec, h.box, h.own, add_reps h.reps, fun r hr h0 => ?_, h.accs, h.apr, h.rank, .inr ⟨.inl ⟨hb, hph.1⟩, hph.2.1, hph.2.2.1, ?_⟩⟩
  · rcases add_mem hr with rfl | hr
    · rcases hl with hl | hl
      · simp only [] at h0
        omega
      · rcases hl.1 with hl | hl
        · simp only [] at h0
          omega
        · exact hl
    · exact h.rpr r hr h0
  · obtain ⟨r, hr, he⟩ := ofb_iff.1 hph.2.2.2
    exact ofb_iff.2 ⟨r, add_sub h.reps hr, he⟩
theorem g_prom {v : View} {g : Gh} {s : Agr} (hI : GInv v g) (hA : AW s) (hv : s.view = v) (q : GOk v g s) {m : Msg} (hm : vmB s.view m = true) (hk : m.kind = 3) (f : FOk v g m) : Res v g s (promA s m) := by
  unfold promA
  cases hb : !decide (s.phase = 1) || !decide (m.rank = s.rank)
  · simp only [Bool.or_eq_false_iff, Bool.not_eq_false', decide_eq_true_eq] at hb
    have hA2 := aw_rep hA hm hk hb.1
    have hq2 : GOk v g { s with reps := (addR s.view s.reps ⟨m.src, m.last, m.cut⟩).1 } := ⟨q.ac, q.re.box, fun p x hx => by
      rcases add_mem hx with rfl | hx
      · have := f.k3 hk
        rw [hb.2] at this
        exact this
      · exact q.re.reps p x hx, q.re.noc, q.re.cmax, q.re.cho, q.re.accs, q.re.dec, q.re.prop⟩
    obtain ⟨g', h1, h2, h3, h4, _⟩ := g_adv hI hA2 hv hq2
    have hs := (ok_adv hA2).2.2.2.1
    generalize advA { s with reps := (addR s.view s.reps ⟨m.src, m.last, m.cut⟩).1 } = T at *
    refine ⟨g', h1, h2, h3, h4, fun p hp => ?_⟩
    simp only [cond_false] at hp
    cases hc : decide (T.phase = 2)
    · rw [hc] at hp
      cases hp
    · rw [hc] at hp
      simp only [cond_true, List.mem_singleton] at hp
      subst hp
      exact ⟨fun k => by
        have k : (4 : Int) = 1 := k
        omega, fun k => by
        have k : (4 : Int) = 3 := k
        omega, fun _ => h4.re.cho (of_decide_eq_true hc), fun k => by
        have k : (4 : Int) = 6 := k
        omega⟩
  · exact res_same hI q no_pk
theorem g_acct {v : View} {g : Gh} {s : Agr} (hI : GInv v g) (hA : AW s) (q : GOk v g s) {m : Msg} (hm : vmB s.view m = true) (hk : m.kind = 4) (f : FOk v g m) : Res v g s (acctA s m) := by
  have hAm := f.k4 (.inl hk)
  have hpos := use_pos (proper_use ((vm_body hm).2.2.2.1 hk).1).1
  have q1 := re_accs q.re (r := ⟨m.src, m.rank, m.cut⟩) hAm
  unfold acctA
  cases ha : (acceptR s.acc m.rank m.cut).2
  · exact res_same hI ⟨q.ac, q1⟩ no_pk
  · obtain ⟨_, hle, _, e, _⟩ := accept_ok hA.acc ha
    rw [e]
    obtain ⟨i2, s2⟩ := g_acc (a := s.self) (r := m.rank) (c := m.cut) hI (by
      rw [q.ac.pro]
      exact hle) (hI.a1 _ _ _ hAm).1
    have q2 := re_ext s2.ext (fun _ _ h => h) (fun p => (ph_rank hA (.inl p)).2.2.1) q.re
    have q3 := re_accs q2 (r := ⟨m.src, m.rank, m.cut⟩) (s2.ext.a _ _ _ hAm)
    have q4 := re_accs q3 (r := ⟨s.self, m.rank, m.cut⟩) (.inr ⟨rfl, rfl, rfl⟩)
    refine ⟨_, i2, s2, fun _ h => h, ⟨ac_acc q.ac (by omega) (Int.le_trans (acc_le hA.acc) hle), ⟨q4.box, q4.reps, q4.noc, q4.cmax, q4.cho, q4.accs, q4.dec, q4.prop⟩⟩, fun p hp => ?_⟩
    simp only [cond_true, List.mem_singleton] at hp
    subst hp
    exact ⟨fun k => by
      have k : (5 : Int) = 1 := k
      omega, fun k => by
      have k : (5 : Int) = 3 := k
      omega, fun _ => .inr ⟨rfl, rfl, rfl⟩, fun k => by
      have k : (5 : Int) = 6 := k
      omega⟩
theorem g_act {v : View} {g : Gh} {s : Agr} (hI : GInv v g) (hA : AW s) (hv : s.view = v) (q : GOk v g s) {m : Msg} (hm : vmB s.view m = true) (f : FOk v g m) : Res v g s (actA s m) := by
  unfold actA
  rcases vm_kind hm with hk | hk | hk | hk | hk | hk
  · rw [if_pos hk]; exact g_vote_in hI hA q f hk
  · rw [if_neg (by omega), if_pos hk]; exact g_prep hI hA q hm hk
  · rw [if_neg (by omega), if_neg (by omega), if_pos hk]; exact g_prom hI hA hv q hm hk f
  · rw [if_neg (by omega), if_neg (by omega), if_neg (by omega), if_pos hk]; exact g_acct hI hA q hm hk f
  · rw [if_neg (by omega), if_neg (by omega), if_neg (by omega), if_neg (by omega), if_pos hk]
    exact res_same hI ⟨q.ac, re_accs q.re (r := ⟨m.src, m.rank, m.cut⟩) (f.k4 (.inr hk))⟩ no_pk
  · rw [if_neg (by omega), if_neg (by omega), if_neg (by omega), if_neg (by omega), if_neg (by omega)]
    refine res_same hI ⟨q.ac, q.re.box, q.re.reps, q.re.noc, q.re.cmax, q.re.cho, q.re.accs, fun _ => f.k6 hk, q.re.prop⟩ (fun p hp => ?_)
    rw [List.mem_singleton.1 hp]
    exact ⟨fun k => by
      have k : (6 : Int) = 1 := k
      omega, fun k => by
      have k : (6 : Int) = 3 := k
      omega, fun k => by
      have k : (6 : Int) = 4 ∨ (6 : Int) = 5 := k
      omega, fun _ => f.k6 hk⟩
theorem fok_dec {v : View} {g : Gh} {s : Agr} {to : Int} {c : List Int} (hd : Dec v g c) : FOk v g (pktOf s to 6 0 0 c).m :=
  ⟨fun k => by
    have k : (6 : Int) = 1 := k
    omega, fun k => by
    have k : (6 : Int) = 3 := k
    omega, fun k => by
    have k : (6 : Int) = 4 ∨ (6 : Int) = 5 := k
    omega, fun _ => hd⟩
theorem g_rec {v : View} {g : Gh} {s : Agr} (hI : GInv v g) (hA : AW s) (hf : few s) (hv : s.view = v) (q : GOk v g s) {m : Msg} (hm : vmB v m = true) (hs : m.src ≠ s.self) (f : FOk v g m) : (recA s m).2.2 = 0 ∧ Res v g s ((recA s m).1, (recA s m).2.1) := by
  have hb : agrB s = true := (agr_iff s).2 ⟨hA, hf⟩
  have hm' : vmB s.view m = true := by rw [hv]; exact hm
  unfold recA
  rw [if_neg (by rw [hb]; simp), if_neg (by rw [decide_eq_true (vm_view hm').2]; simp), if_neg (by rw [hm', decide_eq_false hs]; simp)]
  by_cases h5 : decide (0 < (s.dec.length : Int)) = true
  · rw [if_pos h5]
    refine ⟨rfl, res_same hI q (fun p hp => ?_)⟩
    cases hk : decide (m.kind = 6)
    · simp only [hk, cond_false, List.mem_singleton] at hp
      subst hp
      exact fok_dec (q.re.dec (len1.1 h5))
    · simp only [hk, cond_true] at hp
      cases hp
  · rw [if_neg h5]
    refine ⟨rfl, res_end (x := actA s m) ?_ ?_ (g_act hI hA hv q hm' f)⟩
    · rw [(nice_act hA hf hm' hs).2.2.1]
      exact hv
    · exact (nice_act hA hf hm' hs).1
theorem use_hi {r : Int} (h : usableB r = true) : r < 1073741824 := by
  unfold usableB ownerOf at h
  by_cases h1 : 1073741824 ≤ r
  · rw [decide_eq_true h1] at h
    simp at h
  · omega
theorem att_arg {r p : Int} (hr : 0 ≤ r ∧ r < 1073741824) (hp : 0 ≤ p ∧ p < 1073741824) : ∃ M, IntKind.i64.wrap ((if IntKind.i64.wrap (r.tdiv 1024) < IntKind.i64.wrap (p.tdiv 1024) then IntKind.i64.wrap (p.tdiv 1024) else IntKind.i64.wrap (r.tdiv 1024)) + 1) = M + 1 ∧ r / 1024 ≤ M ∧ p / 1024 ≤ M := by
  have e1 : IntKind.i64.wrap (p.tdiv 1024) = p / 1024 := by
    rw [Int.tdiv_eq_ediv_of_nonneg hp.1]
    exact wrap_i64 (by omega) (by omega)
  have e2 : IntKind.i64.wrap (r.tdiv 1024) = r / 1024 := by
    rw [Int.tdiv_eq_ediv_of_nonneg hr.1]
    exact wrap_i64 (by omega) (by omega)
  rw [e1, e2]
  by_cases h : r / 1024 < p / 1024
  · rw [if_pos h, wrap_i64 (by omega) (by omega)]
    exact ⟨_, rfl, by omega, by omega⟩
  · rw [if_neg h, wrap_i64 (by omega) (by omega)]
    exact ⟨_, rfl, by omega, by omega⟩
theorem att_gt {s : Agr} (h : AW s) (hn : attRank s ≠ 0) : s.rank < attRank s ∧ s.acc.pro < attRank s := by
  have hpb : 0 ≤ s.acc.pro ∧ s.acc.pro < 1073741824 := by
    by_cases h0 : s.acc.pro = 0
    · omega
    · have := use_hi (proper_use (h.pro h0)).1
      have := use_pos (proper_use (h.pro h0)).1
      omega
  have hrb : 0 ≤ s.rank ∧ s.rank < 1073741824 := by
    by_cases h0 : s.rank = 0
    · omega
    · have := use_hi (proper_use (h.rank h0).1).1
      have := use_pos (proper_use (h.rank h0).1).1
      omega
  obtain ⟨M, e, h1, h2⟩ := att_arg hrb hpb
  unfold attRank at hn ⊢
  rw [e] at hn ⊢
  obtain ⟨_, _, h3, _, h5, _⟩ := rank_own hn
  rw [h3]
  omega
theorem g_att {v : View} {g : Gh} {s : Agr} (hI : GInv v g) (hA : AW s) (hv : s.view = v) (hp : s.prop ≠ []) (q : GOk v g s) : Res v g s (attA s, []) := by
  rcases att_cases hA with e | ⟨h1, h2, h3, e⟩
  · rw [e]
    exact res_same hI q no_pk
  · rw [e]
    have hpos := use_pos (proper_use h1).1
    have hgt := (att_gt hA (by omega)).1
    obtain ⟨i1, s1⟩ := g_pro (a := s.self) (r := attRank s) hI (by
      rw [q.ac.pro]
      exact h3)
    have hq2 : GOk v (gPro g s.self (attRank s)) (attS s) := by
      refine ⟨ac_pro q.ac, fun b hb => s1.ext.v _ _ (q.re.box b hb), fun _ x hx => ?_, fun _ c x => ?_, fun r c x o => ?_, (fun p => by
        have p : (1 : Int) = 2 := p
        omega), fun x hx => s1.ext.a _ _ _ (q.re.accs x hx), fun p => dec_ext s1.ext (q.re.dec p), fun p => s1.ext.p _ (q.re.prop p)⟩
      · rcases List.mem_singleton.1 hx with rfl
        exact q_own q.ac hA.acc h3
      · have : attRank s ≤ s.rank := q.re.cmax _ _ x h2
        omega
      · have := q.re.cmax _ _ x o
        show r ≤ attRank s
        omega
    obtain ⟨g', h4, h5, h6, h7, h8⟩ := g_adv i1 (aw_att hA hp h1 h2 h3) hv hq2
    exact ⟨g', h4, step_trans s1 h5, fun c x => h6 c x, h7, h8⟩
theorem re_wait {v : View} {g : Gh} {s : Agr} {w : Int} (q : GOk v g s) : GOk v g { s with wait := w } := ⟨q.ac, q.re.box, q.re.reps, q.re.noc, q.re.cmax, q.re.cho, q.re.accs, q.re.dec, q.re.prop⟩
theorem g_step {v : View} {g : Gh} {s : Agr} (hI : GInv v g) (hA : AW s) (hv : s.view = v) (q : GOk v g s) : Res v g s (stepA s, []) := by
  have hw := wait_in hA
  have h1 := aw_wait hA hw.1 hw.2
  unfold stepA
  by_cases h6 : decide (0 < (s.prop.length : Int)) = true
  · rw [if_pos h6]
    by_cases h7 : dueB s = true
    · rw [if_pos h7]
      exact g_att hI h1 hv (len1.1 h6) (re_wait q)
    · rw [if_neg h7]
      exact res_same hI (re_wait q) no_pk
  · rw [if_neg h6]
    exact res_same hI q no_pk
theorem g_rsd {v : View} {g : Gh} {s : Agr} (q : GOk v g s) : ∀ p ∈ rsdA s, FOk v g p.m := by
  intro p hp
  unfold rsdA at hp
  rw [List.mem_append, List.mem_append] at hp
  rcases hp with (hp | hp) | hp
  · unfold sndV at hp
    cases hc : (cutOf s.box s.self).2
    · rw [hc] at hp
      cases hp
    · rw [hc] at hp
      simp only [cond_true, List.mem_singleton] at hp
      subst hp
      obtain ⟨b, hb, hm, he⟩ := cut_some hc
      have hV := q.re.box b hb
      rw [hm, he] at hV
      exact ⟨fun _ => hV, fun k => by
        have k : (1 : Int) = 3 := k
        omega, fun k => by
        have k : (1 : Int) = 4 ∨ (1 : Int) = 5 := k
        omega, fun k => by
        have k : (1 : Int) = 6 := k
        omega⟩
  · unfold sndP at hp
    cases h1 : decide (s.phase = 1)
    · cases h2 : decide (s.phase = 2)
      · rw [h1, h2] at hp
        cases hp
      · rw [h1, h2] at hp
        simp only [cond_true, cond_false, List.mem_singleton] at hp
        subst hp
        have h2 := of_decide_eq_true h2
        exact ⟨fun k => by
          have k : (4 : Int) = 1 := k
          omega, fun k => by
          have k : (4 : Int) = 3 := k
          omega, fun _ => q.re.cho h2, fun k => by
          have k : (4 : Int) = 6 := k
          omega⟩
    · rw [h1] at hp
      simp only [cond_true, List.mem_singleton] at hp
      subst hp
      exact ⟨fun k => by
        have k : (2 : Int) = 1 := k
        omega, fun k => by
        have k : (2 : Int) = 3 := k
        omega, fun k => by
        have k : (2 : Int) = 4 ∨ (2 : Int) = 5 := k
        omega, fun k => by
        have k : (2 : Int) = 6 := k
        omega⟩
  · unfold sndA at hp
    cases hb : decide (0 ≤ ofB s.accs s.self) && !decide (s.phase = 2)
    · rw [hb] at hp
      cases hp
    · rw [hb] at hp
      simp only [cond_true, List.mem_singleton] at hp
      subst hp
      have h0 := ((Bool.and_eq_true ..).mp hb).1
      obtain ⟨_, hk⟩ := ofr_ix h0
      have hat := of_at h0
      have hm : s.accs.getD (ofB s.accs s.self).toNat rpt0 ∈ s.accs := by simp [hk]
      generalize s.accs.getD (ofB s.accs s.self).toNat rpt0 = r at *
      have ha := q.re.accs r hm
      rw [hat] at ha
      exact ⟨fun k => by
        have k : (5 : Int) = 1 := k
        omega, fun k => by
        have k : (5 : Int) = 3 := k
        omega, fun _ => ha, fun k => by
        have k : (5 : Int) = 6 := k
        omega⟩
theorem g_tick {v : View} {g : Gh} {s : Agr} (hI : GInv v g) (hA : AW s) (hf : few s) (hv : s.view = v) (q : GOk v g s) : Res v g s (tickA s) := by
  have hb : agrB s = true := (agr_iff s).2 ⟨hA, hf⟩
  unfold tickA
  rw [if_neg (by rw [hb]; simp)]
  by_cases h5 : decide (0 < (s.dec.length : Int)) = true
  · rw [if_pos h5]
    refine res_same hI q (fun p hp => ?_)
    rw [List.mem_singleton.1 hp]
    exact fok_dec (q.re.dec (len1.1 h5))
  · rw [if_neg h5]
    obtain ⟨a1, _, a3, _⟩ := ok_step hA hf
    obtain ⟨g', h1, h2, h3, h4, _⟩ := g_step hI hA hv q
    exact res_end (x := (stepA s, rsdA (stepA s))) (a3.trans hv) a1 ⟨g', h1, h2, h3, h4, g_rsd h4⟩
theorem g_propose {v : View} {g : Gh} {s : Agr} (hI : GInv v g) (hA : AW s) (hf : few s) (hv : s.view = v) (q : GOk v g s) {cut : List Int} (hok : (propA s cut).2.2 = 0) : Res v (gPr g cut) s ((propA s cut).1, (propA s cut).2.1) := by
  obtain ⟨i0, s0⟩ := g_prop (c := cut) hI s.self
  have q0 : GOk v (gPr g cut) s := ⟨⟨q.ac.pro, q.ac.neg, q.ac.zero, q.ac.pos, q.ac.top⟩, re_ext s0.ext (fun _ _ h => h) (fun p => (ph_rank hA (.inl p)).2.2.1) q.re⟩
  obtain ⟨hp, hd, hc, hcase⟩ := prop_cases hA hf hok
  have hn := box_no hA hp
  rcases hcase with ⟨_, p1, p2, hb, e⟩ | ⟨_, e⟩
  · rw [e]
    obtain ⟨i1, s1⟩ := g_vote (a := s.self) (c := cut) i0 (by
      rw [q0.ac.pro]
      omega) (q0.ac.neg p2) (.inr rfl)
    have q1 := re_ext s1.ext (fun _ _ h => h) (fun p => (ph_rank hA (.inl p)).2.2.1) q0.re
    have h0 : s.phase = 0 ∧ s.reps = [] ∧ s.cho = [] := by
      rcases hA.ph with h0 | h0
      · exact h0
      · exact absurd hp h0.2.2.1
    have hA2 : AW { s with prop := cut, wait := 0, acc := ⟨0, 0, cut⟩, box := insB s.box ⟨s.self, cut⟩ } := ⟨hA.v, hA.self, Int.le_refl _, (by show (0 : Int) ≤ _; omega), (accB_iff _).2 ⟨.inl rfl, Int.le_refl _, .inr ⟨.inl rfl, by simp, app_ids (of_decide_eq_true hc)⟩⟩, (fun e => absurd rfl e), (fun e => absurd e (Int.lt_irrefl _)), good_iff.2 (.inr hc), good_iff.2 (.inr hc), hA.cho, hA.dec, hb, (own_iff hA.v hb).2 (fun b hb2 he => by
      rcases insB_mem hb2 with rfl | hb2
      · rfl
      · exact absurd he (hn b hb2)), hA.reps, hA.rpr, hA.accs, hA.apr, hA.rank, .inl h0⟩
    refine res_end (x := ({ s with prop := cut, wait := 0, acc := ⟨0, 0, cut⟩, box := insB s.box ⟨s.self, cut⟩ }, [pktOf s 0 1 0 0 cut])) hv hA2 ⟨_, i1, s1, fun _ h => h, ⟨ac_vote q0.ac p1 p2, ⟨fun b hb2 => ?_, q1.reps, q1.noc, q1.cmax, q1.cho, q1.accs, q1.dec, fun _ => .inr rfl⟩⟩, fun p hp2 => ?_⟩
    · rcases insB_mem hb2 with rfl | hb2
      · exact .inr ⟨rfl, rfl⟩
      · exact q1.box b hb2
    · rw [List.mem_singleton.1 hp2]
      exact ⟨fun _ => .inr ⟨rfl, rfl⟩, fun k => by
        have k : (1 : Int) = 3 := k
        omega, fun k => by
        have k : (1 : Int) = 4 ∨ (1 : Int) = 5 := k
        omega, fun k => by
        have k : (1 : Int) = 6 := k
        omega⟩
  · rw [e]
    have h0 : s.phase = 0 ∧ s.reps = [] ∧ s.cho = [] := by
      rcases hA.ph with h0 | h0
      · exact h0
      · exact absurd hp h0.2.2.1
    have hA2 : AW { s with prop := cut, wait := 0 } := ⟨hA.v, hA.self, Int.le_refl _, (by show (0 : Int) ≤ _; omega), hA.acc, hA.pro, hA.rk, hA.acut, good_iff.2 (.inr hc), hA.cho, hA.dec, hA.box, (own_iff hA.v hA.box).2 (fun b hb2 he => absurd he (hn b hb2)), hA.reps, hA.rpr, hA.accs, hA.apr, hA.rank, .inl h0⟩
    exact res_end (x := ({ s with prop := cut, wait := 0 }, [])) hv hA2 (res_same i0 ⟨q0.ac, ⟨q0.re.box, q0.re.reps, q0.re.noc, q0.re.cmax, q0.re.cho, q0.re.accs, q0.re.dec, fun _ => .inr rfl⟩⟩ no_pk)
end Go.Proofs.Ytmbniilpgbjcfaa
