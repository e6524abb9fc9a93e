/- The laws of this seat, part OwC: contracts of the functions, plain laws. No conditions. -/
import Derived.Test.YtmbniilpgbjcfaaOwB
set_option linter.unusedSimpArgs false
set_option linter.unusedVariables false
set_option maxRecDepth 100000
namespace Go.Proofs.Ytmbniilpgbjcfaa
open Go.Lift
/-! the agreement: the end of a call -/
def decR (s : Agr) : List Int := bif (winR s.view s.box).2 then (winR s.view s.box).1 else accdR s
def endA (s : Agr) (ps : List Pkt) : Agr × List Pkt :=
  bif decide ((s.dec.length : Int) = 0) && decide (0 < ((decR s).length : Int)) then ({ s with dec := decR s }, ps ++ [pktOf s 0 6 0 0 (decR s)]) else (s, ps)
theorem win_len {v : View} {l : List Bal} {N : Nat} (hc : ∀ b ∈ l, b.cut.length ≤ N) : (winR v l).1.length ≤ N := by
  unfold winR
  cases !boxB v l
  · cases hf : l.find? (fun b => decide (fastB v.mem.length ≤ (votesN l b.cut : Int))) with
    | none => exact Nat.zero_le _
    | some b => exact hc b (List.mem_of_find?_eq_some hf)
  · exact Nat.zero_le _
theorem accAt_len {l : List Rpt} {N : Nat} (hc : ∀ b ∈ l, b.cut.length ≤ N) (m : Int) : ∀ i, i ≤ l.length → (accAt l m i).2.length ≤ N
  | 0, _ => Nat.zero_le _
  | i + 1, h => by
    unfold accAt
    cases decide (m ≤ (vA l (l.getD i rpt0) l.length : Int)) && decide ((accAt l m i).1 < (l.getD i rpt0).rank)
    · exact accAt_len hc m i (by omega)
    · have hi : i < l.length := by omega
      have hg : l.getD i rpt0 = l[i] := by simp [hi]
      simp only [cond_true, hg]
      exact hc _ (List.getElem_mem hi)
theorem accd_len {s : Agr} (hs : SmA s) : (accdR s).length ≤ 1000 := accAt_len hs.accc _ _ (Nat.le_refl _)
theorem gh_junk {d : DV} : ole (.gh [d]) (.gh [.junk]) := .gh rfl fun i a b ha hb => by
  cases i with
  | zero =>
    simp at ha hb
    subst ha hb
    exact .junk
  | succ n => simp at ha
theorem gh_junk2 {a d : DV} : ole (.gh [a, d]) (.gh [.junk, .junk]) := .gh rfl fun i x y hx hy => by
  rcases i with _ | _ | i
  · simp at hx hy
    subst hx hy
    exact .junk
  · simp at hx hy
    subst hx hy
    exact .junk
  · simp at hx
theorem end_yes {s : Agr} {ps : List Pkt} {c : List Int} (h0 : decide (((s.dec.map intE).length : Int) = 0) = true) (hc : decR s = c) (h : decide (0 < ((c.map intE).length : Int)) = true) : endA s ps = ({ s with dec := c }, ps ++ [pktOf s 0 6 0 0 c]) := by
  rw [List.length_map] at h0 h
  simp only [endA, hc, h0, h, Bool.and_self, cond_true]
theorem end_no {s : Agr} {ps : List Pkt} {c : List Int} (hc : decR s = c) (h : decide (0 < ((c.map intE).length : Int)) = false) : endA s ps = (s, ps) := by
  rw [List.length_map] at h
  simp only [endA, hc, h, Bool.and_false, cond_false]
theorem end_old {s : Agr} {ps : List Pkt} (h0 : decide (((s.dec.map intE).length : Int) = 0) = false) : endA s ps = (s, ps) := by
  rw [List.length_map] at h0
  simp only [endA, h0, Bool.false_and, cond_false]
set_option maxHeartbeats 8000000 in
theorem m_end_nil (s : Agr) (hs : SmA s) : RetM Try.prog 62 [.cells 95 (agrE s ++ [.nl])] [.lp 0 0] [false] [.dead] (.tup [.agg (agrE (endA s []).1), .lst 7 ((endA s []).2.map pktE) false]) := by
  have hv := hs.mem
  have e89 := c_fastvote_Winner s.view (by omega) s.box (by have := hs.box; omega) (fun b hb => by have := hs.boxc b hb; omega)
  have e90 := m_accepted_nil s hs
  have hw := win_len (v := s.view) hs.boxc
  have ha := accd_len hs
  have hd1 : (winR s.view s.box).2 = true → decR s = (winR s.view s.box).1 := fun h => by rw [decR, h, cond_true]
  have hd2 : (winR s.view s.box).2 = false → decR s = accdR s := fun h => by rw [decR, h, cond_false]
  generalize winR s.view s.box = W at *
  generalize accdR s = D at *
  have hsend := fun c h => m_send_nil { s with dec := c } 0 6 0 0 c h
  have hy := fun c h0 hc h => @end_yes s [] c h0 hc h
  have hn := fun c hc h => @end_no s [] c hc h
  have ho := fun h => @end_old s [] h
  generalize endA s [] = R at *
  refine retM_of_bodyA (fn := Try.f62) (c := Try.f62.body.getD .skip) hm hT (by kernel_rfl) Try.func62 (by kernel_rfl) (by kernel_rfl) (by kernel_rfl) (by kernel_rfl) (by kernel_rfl) ?_
  repeat' ((conv => whnf); first | refine And.intro (fun h => h) ?_ | refine dcond_t (by assumption) ?_ | refine dcond_f (by assumption) ?_ | (refine dcond_intro ?_ ?_ <;> intro h) | exact .refl | refine And.intro (by kernel_rfl) ?_ | refine And.intro ⟨fun h => h, fun h => h⟩ ?_ | refine .inl ⟨_, _, DleAll_refl _, e89, ?_⟩ | refine ⟨_, _, DleAll_refl _, fun _ => e89, ?_⟩ | refine ⟨_, _, DleAll_refl _, e89, ?_⟩ | refine .inr ⟨[0], _, _, _, _, _, e90, by rfl, ⟨.refl, trivial⟩, ⟨.refl, trivial⟩, ?_⟩ | refine .inl ⟨_, _, DleAll_refl _, c_agreement_clone _ (by omega), ?_⟩ | refine ⟨_, _, DleAll_refl _, fun _ => c_agreement_clone _ (by omega), ?_⟩ | refine ⟨_, _, DleAll_refl _, c_agreement_clone _ (by omega), ?_⟩ | refine .inr ⟨[0], _, _, _, _, _, hsend _ (by omega), by rfl, ⟨.refl, trivial⟩, ⟨.refl, .refl, .refl, .refl, .refl, .refl, trivial⟩, ?_⟩ | refine Exists.intro false ?_ | (refine And.intro ?_ ?_; focus (simp; done)) | fail)
  all_goals (conv => whnf)
  · rename_i h0 hw2
    rw [hy D h0 (hd2 (by simpa using hw2)) h]
    refine ⟨[.shut 3], ?_⟩
    conv => whnf
    exact ⟨.refl, ⟨.dead, gh_junk, trivial⟩, by rfl⟩
  · rename_i h0 hw2
    rw [hn D (hd2 (by simpa using hw2)) h]
    refine ⟨[], ?_⟩
    conv => whnf
    exact ⟨dle_tupA ⟨.refl, .nl, trivial⟩, ⟨.dead, gh_junk, trivial⟩, by rfl⟩
  · rename_i h0 hw2
    rw [hy W.1 h0 (hd1 (by simpa using hw2)) h]
    refine ⟨[.shut 3], ?_⟩
    conv => whnf
    exact ⟨.refl, ⟨.dead, gh_junk, trivial⟩, by rfl⟩
  · rename_i h0 hw2
    rw [hn W.1 (hd1 (by simpa using hw2)) h]
    refine ⟨[], ?_⟩
    conv => whnf
    exact ⟨dle_tupA ⟨.refl, .nl, trivial⟩, ⟨.dead, gh_junk, trivial⟩, by rfl⟩
  · rw [ho h]
    refine ⟨[], ?_⟩
    conv => whnf
    exact ⟨dle_tupA ⟨.refl, .nl, trivial⟩, ⟨.dead, gh_junk, trivial⟩, by rfl⟩
set_option maxHeartbeats 8000000 in
theorem m_end_own (s : Agr) (hs : SmA s) (ps : List Pkt) (hps : ps.length ≤ 100) : RetM Try.prog 62 [.cells 95 (agrE s ++ [.own 1]), .row 48 7 (ps.map pktE)] [.lp 0 0] [false, false] [.dead, .dead] (.tup [.agg (agrE (endA s ps).1), .lst 7 ((endA s ps).2.map pktE) false]) := by
  have hv := hs.mem
  have e89 := c_fastvote_Winner s.view (by omega) s.box (by have := hs.box; omega) (fun b hb => by have := hs.boxc b hb; omega)
  have e90 := m_accepted_own s hs ps
  have hw := win_len (v := s.view) hs.boxc
  have ha := accd_len hs
  have hd1 : (winR s.view s.box).2 = true → decR s = (winR s.view s.box).1 := fun h => by rw [decR, h, cond_true]
  have hd2 : (winR s.view s.box).2 = false → decR s = accdR s := fun h => by rw [decR, h, cond_false]
  generalize winR s.view s.box = W at *
  generalize accdR s = D at *
  have hsend := fun c h => m_send_own { s with dec := c } ps hps 0 6 0 0 c h
  have hy := fun c h0 hc h => @end_yes s ps c h0 hc h
  have hn := fun c hc h => @end_no s ps c hc h
  have ho := fun h => @end_old s ps h
  generalize endA s ps = R at *
  refine retM_of_bodyA (fn := Try.f62) (c := Try.f62.body.getD .skip) hm hT (by kernel_rfl) Try.func62 (by kernel_rfl) (by kernel_rfl) (by kernel_rfl) (by kernel_rfl) (by kernel_rfl) ?_
  repeat' ((conv => whnf); first | refine And.intro (fun h => h) ?_ | refine dcond_t (by assumption) ?_ | refine dcond_f (by assumption) ?_ | (refine dcond_intro ?_ ?_ <;> intro h) | exact .refl | refine And.intro (by kernel_rfl) ?_ | refine And.intro ⟨fun h => h, fun h => h⟩ ?_ | refine .inl ⟨_, _, DleAll_refl _, e89, ?_⟩ | refine ⟨_, _, DleAll_refl _, fun _ => e89, ?_⟩ | refine ⟨_, _, DleAll_refl _, e89, ?_⟩ | refine .inr ⟨[0, 1], _, _, _, _, _, e90, by rfl, ⟨.refl, .refl, trivial⟩, ⟨.refl, trivial⟩, ?_⟩ | refine .inl ⟨_, _, DleAll_refl _, c_agreement_clone _ (by omega), ?_⟩ | refine ⟨_, _, DleAll_refl _, fun _ => c_agreement_clone _ (by omega), ?_⟩ | refine ⟨_, _, DleAll_refl _, c_agreement_clone _ (by omega), ?_⟩ | refine .inr ⟨[0, 1], _, _, _, _, _, hsend _ (by omega), by rfl, ⟨.refl, .refl, trivial⟩, ⟨.refl, .refl, .refl, .refl, .refl, .refl, trivial⟩, ?_⟩ | refine Exists.intro false ?_ | (refine And.intro ?_ ?_; focus (simp; done)) | fail)
  all_goals (conv => whnf)
  · rename_i h0 hw2
    rw [hy D h0 (hd2 (by simpa using hw2)) h]
    refine ⟨[.shut 3], ?_⟩
    conv => whnf
    exact ⟨.refl, ⟨.dead, .dead, gh_junk2, trivial⟩, by rfl⟩
  · rename_i h0 hw2
    rw [hn D (hd2 (by simpa using hw2)) h]
    refine ⟨[.shut 3], ?_⟩
    conv => whnf
    exact ⟨.refl, ⟨.dead, .dead, gh_junk2, trivial⟩, by rfl⟩
  · rename_i h0 hw2
    rw [hy W.1 h0 (hd1 (by simpa using hw2)) h]
    refine ⟨[.shut 3], ?_⟩
    conv => whnf
    exact ⟨.refl, ⟨.dead, .dead, gh_junk2, trivial⟩, by rfl⟩
  · rename_i h0 hw2
    rw [hn W.1 (hd1 (by simpa using hw2)) h]
    refine ⟨[.shut 3], ?_⟩
    conv => whnf
    exact ⟨.refl, ⟨.dead, .dead, gh_junk2, trivial⟩, by rfl⟩
  · rw [ho h]
    refine ⟨[.shut 3], ?_⟩
    conv => whnf
    exact ⟨.refl, ⟨.dead, .dead, gh_junk2, trivial⟩, by rfl⟩
end Go.Proofs.Ytmbniilpgbjcfaa

set_option linter.unusedSimpArgs false
set_option linter.unusedVariables false
set_option maxRecDepth 100000
namespace Go.Proofs.Ytmbniilpgbjcfaa
open Go.Lift
/-! the agreement: a proposal -/
def propA (s : Agr) (cut : List Int) : Agr × List Pkt × Int :=
  bif !agrB s || !appB s.view cut then (agr0, [], 1)
  else bif decide (0 < (s.prop.length : Int)) || decide (0 < (s.dec.length : Int)) then (agr0, [], 7)
  else bif (voteR s.acc cut).2 then
    ((endA { s with prop := cut, wait := 0, acc := (voteR s.acc cut).1, box := (castR s.view s.box ⟨s.self, cut⟩).1 } [pktOf s 0 1 0 0 cut]).1, (endA { s with prop := cut, wait := 0, acc := (voteR s.acc cut).1, box := (castR s.view s.box ⟨s.self, cut⟩).1 } [pktOf s 0 1 0 0 cut]).2, 0)
  else ((endA { s with prop := cut, wait := 0 } []).1, (endA { s with prop := cut, wait := 0 } []).2, 0)
theorem agr_view {s : Agr} (h : agrB s = true) : viewB s.view = true ∧ inB s.view.mem s.self = true ∧ 0 ≤ s.wait ∧ s.wait ≤ 1099511627776 := by
  unfold agrB at h
  cases h1 : !viewB s.view || !inB s.view.mem s.self || decide (s.wait < 0) || decide (1099511627776 < s.wait)
  · simp only [Bool.or_eq_false_iff, Bool.not_eq_false', decide_eq_false_iff_not] at h1
    exact ⟨h1.1.1.1, h1.1.1.2, by omega, by omega⟩
  · rw [h1] at h
    cases h
theorem agr_good {s : Agr} (h : agrB s = true) : goodB s.view s.prop = true ∧ goodB s.view s.cho = true ∧ goodB s.view s.dec = true ∧ boxB s.view s.box = true := by
  unfold agrB at h
  cases h1 : !viewB s.view || !inB s.view.mem s.self || decide (s.wait < 0) || decide (1099511627776 < s.wait)
  · rw [h1, cond_false] at h
    generalize (!accB s.acc || !decide (s.acc.pro = 0) && !properB s.view s.acc.pro || decide (0 < s.acc.rank) && !properB s.view s.acc.rank || !goodB s.view s.acc.cut) = b at h
    cases b
    · rw [cond_false] at h
      cases h2 : !goodB s.view s.prop || !goodB s.view s.cho || !goodB s.view s.dec || !boxB s.view s.box
      · simp only [Bool.or_eq_false_iff, Bool.not_eq_false'] at h2
        exact ⟨h2.1.1.1, h2.1.1.2, h2.1.2, h2.2⟩
      · rw [h2] at h
        cases h
    · cases h
  · rw [h1] at h
    cases h
theorem agr_box {s : Agr} (h : agrB s = true) : s.box.length ≤ 16 := by
  have := box_le (agr_good h).2.2.2
  have := view_n (agr_view h).1
  omega
theorem cast_len {v : View} {l : List Bal} {b : Bal} : (castR v l b).1.length ≤ l.length + 1 := by
  unfold castR
  have := insB_len l b
  cases !boxB v l || !appB v b.cut <;> cases !inB v.mem b.mem <;> cases decide (0 ≤ ofBal l b.mem) <;> simp <;> omega
theorem cast_cut {v : View} {l : List Bal} {b : Bal} {N : Nat} (hl : ∀ x ∈ l, x.cut.length ≤ N) (hb : b.cut.length ≤ N) : ∀ x ∈ (castR v l b).1, x.cut.length ≤ N := by
  unfold castR
  intro x hx
  cases h1 : !boxB v l || !appB v b.cut <;> cases h2 : !inB v.mem b.mem <;> cases h3 : decide (0 ≤ ofBal l b.mem) <;> rw [h1, h2, h3] at hx <;> simp only [cond_true, cond_false] at hx <;> try (cases hx; done)
  rcases insB_mem hx with rfl | hx
  · exact hb
  · exact hl x hx
set_option maxHeartbeats 8000000 in
theorem c_agreement_Propose (s : Agr) (hs : SmA s) (cut : List Int) (hc : cut.length ≤ 1000) : Ret Try.prog 16 [.agg (agrE s), .lst 1 (cut.map intE) false] (.tup [.agg (agrE (propA s cut).1), .lst 7 ((propA s cut).2.1.map pktE) false, i64 (propA s cut).2.2]) := by
  have hv := hs.mem
  have e12 := c_agreement_Valid s hs
  have e55 := c_agreement_applicable s.view (by omega) cut (by omega)
  have e58 := c_agreement_cloneState s hs
  have e59 := c_paxos_OnVote s.acc (by have := hs.acut; omega) cut (by omega)
  have e60 := c_fastvote_Cast s.view (by omega) s.box (by have := hs.box; omega) (fun b hb => by have := hs.boxc b hb; omega) ⟨s.self, cut⟩ (by simp only []; omega)
  have hs1 : SmA { s with prop := cut, wait := 0 } := ⟨hs.mem, hs.acut, hc, hs.box, hs.boxc, hs.reps, hs.repc, hs.cho, hs.accs, hs.accc, hs.dec⟩
  have hs2 : agrB s = true → SmA { s with prop := cut, wait := 0, acc := (voteR s.acc cut).1, box := (castR s.view s.box ⟨s.self, cut⟩).1 } := fun h =>
    ⟨hs.mem, vote_len hs.acut hc, hc, by
      have := cast_len (v := s.view) (l := s.box) (b := ⟨s.self, cut⟩)
      have := agr_box h
      simp only []
      omega, cast_cut hs.boxc hc, hs.reps, hs.repc, hs.cho, hs.accs, hs.accc, hs.dec⟩
  obtain ⟨R, hR⟩ : ∃ R, R = propA s cut := ⟨_, rfl⟩
  rw [← hR]
  unfold propA at hR
  generalize voteR s.acc cut = V at *
  generalize (castR s.view s.box ⟨s.self, cut⟩) = X at *
  generalize agrB s = B at *
  have msend := m_send_nil { s with prop := cut, wait := 0, acc := V.1, box := X.1 } 0 1 0 0 cut (by omega)
  have mend1 := m_end_nil _ hs1
  have mend2 := fun h => m_end_own _ (hs2 h) [pktOf s 0 1 0 0 cut] (by simp)
  refine ret_of_body (fn := Try.f16) (c := Try.f16.body.getD .skip) hm hT (by kernel_rfl) Try.func16 (by kernel_rfl) (by kernel_rfl) (by kernel_rfl) (by kernel_rfl) ?_
  repeat' ((conv => whnf); first | refine And.intro (fun h => h) ?_ | refine dcond_t (by assumption) ?_ | refine dcond_f (by assumption) ?_ | (refine dcond_intro ?_ ?_ <;> intro h) | exact .refl | refine And.intro (by kernel_rfl) ?_ | refine And.intro ⟨fun h => h, fun h => h⟩ ?_ | refine .inl ⟨_, _, DleAll_refl _, e12, ?_⟩ | refine ⟨_, _, DleAll_refl _, fun _ => e12, ?_⟩ | refine ⟨_, _, DleAll_refl _, e12, ?_⟩ | refine .inl ⟨_, _, DleAll_refl _, e55, ?_⟩ | refine ⟨_, _, DleAll_refl _, fun _ => e55, ?_⟩ | refine ⟨_, _, DleAll_refl _, e55, ?_⟩ | refine .inl ⟨_, _, DleAll_refl _, e58, ?_⟩ | refine ⟨_, _, DleAll_refl _, fun _ => e58, ?_⟩ | refine ⟨_, _, DleAll_refl _, e58, ?_⟩ | refine Exists.intro false ?_ | (refine And.intro ?_ ?_; focus (simp; done)) | fail)
  · simp only [h, cond_true] at hR
    subst hR
    exact dle_tupA ⟨dle_aggA ⟨.refl, .refl, .nl, .refl, .refl, .nl, .nl, .nl, .refl, .refl, .nl, .nl, .nl, .nl, .refl, trivial⟩, .nl, .refl, trivial⟩
  · rename_i h0
    rw [List.length_map, List.length_map] at h
    simp only [h0, h, cond_true, cond_false] at hR
    subst hR
    exact dle_tupA ⟨dle_aggA ⟨.refl, .refl, .nl, .refl, .refl, .nl, .nl, .nl, .refl, .refl, .nl, .nl, .nl, .nl, .refl, trivial⟩, .nl, .refl, trivial⟩
  rename_i h0
  rw [List.length_map, List.length_map] at h
  simp only [h0, h, cond_false] at hR
  clear h
  have hB : B = true := by
    cases B
    · cases h0
    · rfl
  repeat' ((conv => whnf); first | refine And.intro (fun h => h) ?_ | refine dcond_t (by assumption) ?_ | refine dcond_f (by assumption) ?_ | (refine dcond_intro ?_ ?_ <;> intro h) | exact .refl | refine And.intro (by kernel_rfl) ?_ | refine And.intro ⟨fun h => h, fun h => h⟩ ?_ | refine .inl ⟨_, _, DleAll_refl _, e12, ?_⟩ | refine ⟨_, _, DleAll_refl _, fun _ => e12, ?_⟩ | refine ⟨_, _, DleAll_refl _, e12, ?_⟩ | refine .inl ⟨_, _, DleAll_refl _, e55, ?_⟩ | refine ⟨_, _, DleAll_refl _, fun _ => e55, ?_⟩ | refine ⟨_, _, DleAll_refl _, e55, ?_⟩ | refine .inl ⟨_, _, DleAll_refl _, e58, ?_⟩ | refine ⟨_, _, DleAll_refl _, fun _ => e58, ?_⟩ | refine ⟨_, _, DleAll_refl _, e58, ?_⟩ | refine .inl ⟨_, _, DleAll_refl _, c_agreement_clone _ (by omega), ?_⟩ | refine ⟨_, _, DleAll_refl _, fun _ => c_agreement_clone _ (by omega), ?_⟩ | refine ⟨_, _, DleAll_refl _, c_agreement_clone _ (by omega), ?_⟩ | refine .inl ⟨_, _, DleAll_refl _, e59, ?_⟩ | refine ⟨_, _, DleAll_refl _, fun _ => e59, ?_⟩ | refine ⟨_, _, DleAll_refl _, e59, ?_⟩ | refine .inl ⟨_, _, DleAll_refl _, e60, ?_⟩ | refine ⟨_, _, DleAll_refl _, fun _ => e60, ?_⟩ | refine ⟨_, _, DleAll_refl _, e60, ?_⟩ | refine .inr ⟨[2], _, _, _, _, _, msend, by rfl, ⟨.refl, trivial⟩, ⟨.refl, .refl, .refl, .refl, .refl, .refl, trivial⟩, ?_⟩ | refine .inr ⟨[2], _, _, _, _, _, mend1, by rfl, ⟨.refl, trivial⟩, ⟨.refl, trivial⟩, ?_⟩ | refine .inr ⟨[2, 6], _, _, _, _, _, mend2 hB, by rfl, ⟨.refl, .refl, trivial⟩, ⟨.refl, trivial⟩, ?_⟩ | refine Exists.intro false ?_ | (refine And.intro ?_ ?_; focus (simp; done)) | fail)
  all_goals (conv => whnf)
  all_goals (simp only [h, cond_true, cond_false] at hR)
  all_goals subst hR
  all_goals exact .refl
end Go.Proofs.Ytmbniilpgbjcfaa

set_option linter.unusedSimpArgs false
set_option linter.unusedVariables false
set_option maxRecDepth 100000
namespace Go.Proofs.Ytmbniilpgbjcfaa
open Go.Lift
/-! the agreement: a vote arrives -/
def voteA (s : Agr) (m : Msg) : Agr := bif decide ((castR s.view s.box ⟨m.src, m.cut⟩).2 = 0) then { s with box := (castR s.view s.box ⟨m.src, m.cut⟩).1 } else s
set_option maxHeartbeats 8000000 in
theorem c_Receive_vote (s : Agr) (hs : SmA s) (m : Msg) (hc : m.cut.length ≤ 1000) (h1 : agrB s = true) (h2 : m.view = s.view.num) (h3 : vmB s.view m = true) (h4 : m.src ≠ s.self) (h5 : s.dec = []) (h6 : m.kind = 1) :
    Ret Try.prog 17 [.agg (agrE s), .agg (msgE m)] (.tup [.agg (agrE (endA (voteA s m) []).1), .lst 7 ((endA (voteA s m) []).2.map pktE) false, i64 0]) := by
  have hv := hs.mem
  have e12 := c_agreement_Valid s hs
  have e14 := c_agreement_ValidMessage s.view (by omega) m (by omega)
  have e58 := c_agreement_cloneState s hs
  have e60 := c_fastvote_Cast s.view (by omega) s.box (by have := hs.box; omega) (fun b hb => by have := hs.boxc b hb; omega) ⟨m.src, m.cut⟩ (by simp only []; omega)
  have hbx := agr_box h1
  have hs2 : SmA (voteA s m) := by
    unfold voteA
    cases decide ((castR s.view s.box ⟨m.src, m.cut⟩).2 = 0)
    · exact hs
    · exact ⟨hs.mem, hs.acut, hs.prop, by
        have := cast_len (v := s.view) (l := s.box) (b := ⟨m.src, m.cut⟩)
        simp only [cond_true]
        omega, cast_cut hs.boxc hc, hs.reps, hs.repc, hs.cho, hs.accs, hs.accc, hs.dec⟩
  have mend := m_end_nil _ hs2
  have hy : decide ((castR s.view s.box ⟨m.src, m.cut⟩).2 = 0) = true → voteA s m = { s with box := (castR s.view s.box ⟨m.src, m.cut⟩).1 } := fun h => by rw [voteA, h, cond_true]
  have hn : decide ((castR s.view s.box ⟨m.src, m.cut⟩).2 = 0) = false → voteA s m = s := fun h => by rw [voteA, h, cond_false]
  have mendY : decide ((castR s.view s.box ⟨m.src, m.cut⟩).2 = 0) = true → RetM Try.prog 62 [.cells 95 (agrE { s with box := (castR s.view s.box ⟨m.src, m.cut⟩).1 } ++ [.nl])] [.lp 0 0] [false] [.dead] (.tup [.agg (agrE (endA (voteA s m) []).1), .lst 7 ((endA (voteA s m) []).2.map pktE) false]) := fun h => by
    have := mend
    rw [hy h] at this ⊢
    exact this
  have mendN : decide ((castR s.view s.box ⟨m.src, m.cut⟩).2 = 0) = false → RetM Try.prog 62 [.cells 95 (agrE s ++ [.nl])] [.lp 0 0] [false] [.dead] (.tup [.agg (agrE (endA (voteA s m) []).1), .lst 7 ((endA (voteA s m) []).2.map pktE) false]) := fun h => by
    have := mend
    rw [hn h] at this ⊢
    exact this
  clear mend hy hn hs2
  generalize endA (voteA s m) [] = E at *
  generalize castR s.view s.box ⟨m.src, m.cut⟩ = X at *
  rw [h1] at e12
  rw [h3] at e14
  have h4' : decide (m.src = s.self) = false := decide_eq_false h4
  have h2' : decide (m.view = s.view.num) = true := decide_eq_true h2
  have h5' : decide (0 < ((s.dec.map intE).length : Int)) = false := by rw [h5]; rfl
  have h6' : decide (m.kind = 1) = true := decide_eq_true h6
  refine ret_of_body (fn := Try.f17) (c := Try.f17.body.getD .skip) hm hT (by kernel_rfl) Try.func17 (by kernel_rfl) (by kernel_rfl) (by kernel_rfl) (by kernel_rfl) ?_
  repeat' ((conv => whnf); first | refine And.intro (fun h => h) ?_ | refine dcond_t (by assumption) ?_ | refine dcond_f (by assumption) ?_ | (refine dcond_intro ?_ ?_ <;> intro h) | exact .refl | refine And.intro (by kernel_rfl) ?_ | refine And.intro ⟨fun h => h, fun h => h⟩ ?_ | refine .inl ⟨_, _, DleAll_refl _, e12, ?_⟩ | refine ⟨_, _, DleAll_refl _, fun _ => e12, ?_⟩ | refine ⟨_, _, DleAll_refl _, e12, ?_⟩ | refine .inl ⟨_, _, DleAll_refl _, e14, ?_⟩ | refine ⟨_, _, DleAll_refl _, fun _ => e14, ?_⟩ | refine ⟨_, _, DleAll_refl _, e14, ?_⟩ | refine .inl ⟨_, _, DleAll_refl _, e58, ?_⟩ | refine ⟨_, _, DleAll_refl _, fun _ => e58, ?_⟩ | refine ⟨_, _, DleAll_refl _, e58, ?_⟩ | refine .inl ⟨_, _, DleAll_refl _, e60, ?_⟩ | refine ⟨_, _, DleAll_refl _, fun _ => e60, ?_⟩ | refine ⟨_, _, DleAll_refl _, e60, ?_⟩ | refine .inr ⟨[3], _, _, _, _, _, mendY (by assumption), by rfl, ⟨.refl, trivial⟩, ⟨.refl, trivial⟩, ?_⟩ | refine .inr ⟨[3], _, _, _, _, _, mendN (by assumption), by rfl, ⟨.refl, trivial⟩, ⟨.refl, trivial⟩, ?_⟩ | refine Exists.intro false ?_ | (refine And.intro ?_ ?_; focus (simp; done)) | fail)
  all_goals (conv => whnf)
  rw [h2'] at h
  cases h
end Go.Proofs.Ytmbniilpgbjcfaa

set_option linter.unusedSimpArgs false
set_option linter.unusedVariables false
set_option maxRecDepth 100000
namespace Go.Proofs.Ytmbniilpgbjcfaa
open Go.Lift
/-! the agreement: small states -/
def smallC (l : List Bal) (i : Nat) : Bool := !decide (60 < ((l.getD i bal0).cut.length : Int))
def smallX (v : View) (l : List Bal) : Bool := allB (smallC l) l.length && (decide ((v.mem.length : Int) ≤ 60) && decide ((l.length : Int) ≤ 60))
theorem c_law8_Small (v : View) (hv : v.mem.length ≤ maxLen) (l : List Bal) (hl : l.length ≤ maxLen) : Ret Try.prog 26 [.agg (viewE v), .lst 2 (l.map balE) false] (.v (.bool (smallX v l))) := by
  have hl' : l.length ≤ 9223372036854775807 := hl
  refine ret_of_body (fn := Try.f26) (c := Try.f26.body.getD .skip) hm hT (by kernel_rfl) Try.func26 (by kernel_rfl) (by kernel_rfl) (by kernel_rfl) (by kernel_rfl) ?_
  repeat' ((conv => whnf); first | refine And.intro (fun h => h) ?_ | refine dcond_t (by assumption) ?_ | refine dcond_f (by assumption) ?_ | (refine dcond_intro ?_ ?_ <;> intro h) | exact .refl | refine And.intro (by kernel_rfl) ?_ | refine And.intro ⟨fun h => h, fun h => h⟩ ?_ | refine Exists.intro false ?_ | (refine And.intro ?_ ?_; focus (simp; done)) | fail)
  refine ⟨Nat, fun i => ⟨[(1, .lst 2 (l.map balE) false), (2, .lp 0 0), (5, i64 i)], [.cells 24 (viewE v)]⟩, fun i => i ≤ l.length ∧ ∀ j, j < i → smallC l j = true, fun i => l.length - i, [], ⟨0, ⟨Nat.zero_le _, by omega⟩, ?_⟩, ?_⟩
  · exact ⟨by repeat' ((conv => whnf); first | exact trivial | refine And.intro (by (conv => arg 1; whnf); first | (with_reducible exact .refl) | exact dle_int (wrap_succ (by omega)) | exact .refl) ?_), by repeat' ((conv => whnf); first | exact trivial | refine And.intro ?_ ?_ | exact .refl), rfl⟩
  · intro i ⟨hi, hall⟩
    conv => whnf
    refine dcond_intro ?_ ?_ <;> intro h
    · have hlt : i < l.length := by simpa using h
      clear h
      have hg : l.getD i bal0 = l[i] := by simp [hlt]
      repeat' ((conv => whnf); first | refine And.intro (fun h => h) ?_ | refine dcond_t (by assumption) ?_ | refine dcond_f (by assumption) ?_ | (refine dcond_intro ?_ ?_ <;> intro h) | exact .refl | refine And.intro (by kernel_rfl) ?_ | refine And.intro ⟨fun h => h, fun h => h⟩ ?_ | refine ⟨_, _, And.intro ⟨rfl, get_map hlt⟩ ?_⟩ | refine Exists.intro false ?_ | (refine And.intro ?_ ?_; focus (simp; done)) | fail)
      all_goals (conv => whnf)
      · refine dle_bool ?_
        rw [List.length_map] at h
        rw [smallX, allB_false hlt (by simp only [smallC, hg, h]; rfl), Bool.false_and]
      · rw [List.length_map] at h
        refine ⟨i + 1, ⟨hlt, fun j hj => ?_⟩, by simp only []; omega, ?_⟩
        · rcases Nat.lt_succ_iff_lt_or_eq.1 hj with hj | rfl
          · exact hall j hj
          · simp only [smallC, hg, h]; rfl
        · exact ⟨by repeat' ((conv => whnf); first | exact trivial | refine And.intro (by (conv => arg 1; whnf); first | (with_reducible exact .refl) | exact dle_int (wrap_succ (by omega)) | exact .refl) ?_), by repeat' ((conv => whnf); first | exact trivial | refine And.intro ?_ ?_ | exact .refl), rfl⟩
    · have hge : ¬ i < l.length := by simpa using h
      clear h
      repeat' ((conv => whnf); first | refine And.intro (fun h => h) ?_ | refine dcond_t (by assumption) ?_ | refine dcond_f (by assumption) ?_ | (refine dcond_intro ?_ ?_ <;> intro h) | exact .refl | refine And.intro (by kernel_rfl) ?_ | refine And.intro ⟨fun h => h, fun h => h⟩ ?_ | refine Exists.intro false ?_ | (refine And.intro ?_ ?_; focus (simp; done)) | fail)
      all_goals (conv => whnf)
      all_goals (refine dle_bool ?_)
      all_goals (rw [smallX, allB_true.2 (fun j hj => hall j (by omega)), Bool.true_and, List.length_map, List.length_map])
def smA10 (s : Agr) : Bool :=
  bif decide (60 < (s.view.mem.length : Int)) || decide (60 < (s.acc.cut.length : Int)) || decide (60 < (s.prop.length : Int)) || decide (60 < (s.cho.length : Int)) || decide (60 < (s.dec.length : Int)) || !smallX s.view s.box || decide (60 < (s.reps.length : Int)) || decide (60 < (s.accs.length : Int)) then false
  else allB (smallAt s.reps) s.reps.length && allB (smallAt s.accs) s.accs.length
theorem all_small {l : List Rpt} (h : allB (smallAt l) l.length = true) : ∀ r ∈ l, r.cut.length ≤ 1000 := fun r hr => by
  obtain ⟨i, hi, rfl⟩ := List.getElem_of_mem hr
  have := allB_true.1 h i hi
  simp only [smallAt, Bool.not_eq_true', decide_eq_false_iff_not, List.getD_eq_getElem?_getD, List.getElem?_eq_getElem hi, Option.getD_some] at this
  omega
theorem sm_all {s : Agr} (h : smA10 s = true) : SmA s := by
  unfold smA10 at h
  cases h1 : decide (60 < (s.view.mem.length : Int)) || decide (60 < (s.acc.cut.length : Int)) || decide (60 < (s.prop.length : Int)) || decide (60 < (s.cho.length : Int)) || decide (60 < (s.dec.length : Int)) || !smallX s.view s.box || decide (60 < (s.reps.length : Int)) || decide (60 < (s.accs.length : Int))
  · rw [h1, cond_false, Bool.and_eq_true] at h
    simp only [Bool.or_eq_false_iff, Bool.not_eq_false', decide_eq_false_iff_not] at h1
    obtain ⟨⟨⟨⟨⟨⟨⟨a1, a2⟩, a3⟩, a4⟩, a5⟩, a6⟩, a7⟩, a8⟩ := h1
    simp only [smallX, Bool.and_eq_true, decide_eq_true_eq] at a6
    refine ⟨by omega, by omega, by omega, by omega, fun b hb => ?_, by omega, all_small h.1, by omega, by omega, all_small h.2, by omega⟩
    obtain ⟨i, hi, rfl⟩ := List.getElem_of_mem hb
    have := allB_true.1 a6.1 i hi
    simp only [smallC, Bool.not_eq_true', decide_eq_false_iff_not, List.getD_eq_getElem?_getD, List.getElem?_eq_getElem hi, Option.getD_some] at this
    omega
  · rw [h1] at h
    cases h
set_option maxHeartbeats 4000000 in
theorem c_law10_Small (s : Agr) (k1 : s.view.mem.length ≤ maxLen) (k2 : s.box.length ≤ maxLen) (k3 : s.reps.length ≤ maxLen) (k4 : s.accs.length ≤ maxLen) : Ret Try.prog 8 [.agg (agrE s)] (.v (.bool (smA10 s))) := by
  have k3' : s.reps.length ≤ 9223372036854775807 := k3
  have k4' : s.accs.length ≤ 9223372036854775807 := k4
  have e26 := c_law8_Small s.view k1 s.box k2
  unfold smA10
  generalize smallX s.view s.box = B at *
  refine ret_of_body (fn := Try.f8) (c := Try.f8.body.getD .skip) hm hT (by kernel_rfl) Try.func8 (by kernel_rfl) (by kernel_rfl) (by kernel_rfl) (by kernel_rfl) ?_
  repeat' ((conv => whnf); first | refine And.intro (fun h => h) ?_ | refine dcond_t (by assumption) ?_ | refine dcond_f (by assumption) ?_ | (refine dcond_intro ?_ ?_ <;> intro h) | exact .refl | refine And.intro (by kernel_rfl) ?_ | refine And.intro ⟨fun h => h, fun h => h⟩ ?_ | refine .inl ⟨_, _, DleAll_refl _, e26, ?_⟩ | refine ⟨_, _, DleAll_refl _, fun _ => e26, ?_⟩ | refine ⟨_, _, DleAll_refl _, e26, ?_⟩ | refine Exists.intro false ?_ | (refine And.intro ?_ ?_; focus (simp; done)) | fail)
  all_goals (conv => whnf)
  · simp only [List.length_map] at h
    refine dle_bool ?_
    rw [h, cond_true]
  · simp only [List.length_map] at h
    rw [h, cond_false]
    clear h
    refine ⟨Nat, fun i => ⟨[(1, .lp 0 0), (3, i64 i)], [.cells 30 (agrE s)]⟩, fun i => i ≤ s.reps.length ∧ ∀ j, j < i → smallAt s.reps j = true, fun i => s.reps.length - i, [], ⟨0, ⟨Nat.zero_le _, by omega⟩, ?_⟩, ?_⟩
    · conv => whnf
      exact ⟨⟨.refl, .refl, trivial⟩, ⟨.refl, trivial⟩, by rfl⟩
    · intro i ⟨hi, hall⟩
      conv => whnf
      refine dcond_intro ?_ ?_ <;> intro h
      · have hlt : i < s.reps.length := by simpa using h
        clear h
        have hg : s.reps.getD i rpt0 = s.reps[i] := by simp [hlt]
        repeat' ((conv => whnf); first | refine And.intro (fun h => h) ?_ | refine dcond_t (by assumption) ?_ | refine dcond_f (by assumption) ?_ | (refine dcond_intro ?_ ?_ <;> intro h) | exact .refl | refine And.intro (by kernel_rfl) ?_ | refine And.intro ⟨fun h => h, fun h => h⟩ ?_ | refine ⟨_, _, And.intro ⟨rfl, get_map hlt⟩ ?_⟩ | refine Exists.intro false ?_ | (refine And.intro ?_ ?_; focus (simp; done)) | fail)
        all_goals (conv => whnf)
        · refine dle_bool ?_
          rw [List.length_map] at h
          rw [allB_false hlt (by simp only [smallAt, hg, h]; rfl), Bool.false_and]
        · rw [List.length_map] at h
          refine ⟨i + 1, ⟨hlt, fun j hj => ?_⟩, by simp only []; omega, ?_⟩
          · rcases Nat.lt_succ_iff_lt_or_eq.1 hj with hj | rfl
            · exact hall j hj
            · simp only [smallAt, hg, h]; rfl
          · conv => whnf
            exact ⟨⟨.refl, dle_int (wrap_succ (by omega)), trivial⟩, ⟨.refl, trivial⟩, by rfl⟩
      · have hge : ¬ i < s.reps.length := by simpa using h
        clear h
        rw [allB_true.2 (fun j hj => hall j (by omega)), Bool.true_and]
        conv => whnf
        refine ⟨Nat, fun i => ⟨[(1, .lp 0 0), (4, i64 i)], [.cells 30 (agrE s)]⟩, fun i => i ≤ s.accs.length ∧ ∀ j, j < i → smallAt s.accs j = true, fun i => s.accs.length - i, [], ⟨0, ⟨Nat.zero_le _, by omega⟩, ?_⟩, ?_⟩
        · conv => whnf
          exact ⟨⟨.refl, .refl, trivial⟩, ⟨.refl, trivial⟩, by rfl⟩
        · intro i ⟨hi, hall⟩
          conv => whnf
          refine dcond_intro ?_ ?_ <;> intro h
          · have hlt : i < s.accs.length := by simpa using h
            clear h
            have hg : s.accs.getD i rpt0 = s.accs[i] := by simp [hlt]
            repeat' ((conv => whnf); first | refine And.intro (fun h => h) ?_ | refine dcond_t (by assumption) ?_ | refine dcond_f (by assumption) ?_ | (refine dcond_intro ?_ ?_ <;> intro h) | exact .refl | refine And.intro (by kernel_rfl) ?_ | refine And.intro ⟨fun h => h, fun h => h⟩ ?_ | refine ⟨_, _, And.intro ⟨rfl, get_map hlt⟩ ?_⟩ | refine Exists.intro false ?_ | (refine And.intro ?_ ?_; focus (simp; done)) | fail)
            all_goals (conv => whnf)
            · refine dle_bool ?_
              rw [List.length_map] at h
              rw [allB_false hlt (by simp only [smallAt, hg, h]; rfl)]
            · rw [List.length_map] at h
              refine ⟨i + 1, ⟨hlt, fun j hj => ?_⟩, by simp only []; omega, ?_⟩
              · rcases Nat.lt_succ_iff_lt_or_eq.1 hj with hj | rfl
                · exact hall j hj
                · simp only [smallAt, hg, h]; rfl
              · conv => whnf
                exact ⟨⟨.refl, dle_int (wrap_succ (by omega)), trivial⟩, ⟨.refl, trivial⟩, by rfl⟩
          · have hge : ¬ i < s.accs.length := by simpa using h
            clear h
            conv => whnf
            refine dle_bool ?_
            rw [allB_true.2 (fun j hj => hall j (by omega))]
end Go.Proofs.Ytmbniilpgbjcfaa

set_option linter.unusedSimpArgs false
set_option linter.unusedVariables false
set_option maxRecDepth 100000
namespace Go.Proofs.Ytmbniilpgbjcfaa
open Go.Lift
/-! the agreement: the reference's valid states, equal states -/
theorem ofb_ix {l : List Bal} {x : Int} (h : decide (0 ≤ ofBal l x) = true) : ofBal l x = ((ofBal l x).toNat : Int) ∧ (l.map balE)[(ofBal l x).toNat]? = some (balE (l.getD (ofBal l x).toNat bal0)) := by
  have h := of_decide_eq_true h
  refine ⟨by omega, ?_⟩
  unfold ofBal at h ⊢
  rcases hf : (List.range l.length).find? (fun i => decide ((l.getD i bal0).mem = x)) with _ | n
  · simp only [findB, hf] at h
    omega
  · have hm := List.mem_of_find?_eq_some hf
    have hn : n < l.length := List.mem_range.1 hm
    simp only [findB, hf, Int.toNat_natCast]
    simp [hn]
theorem allB_and {p q : Nat → Bool} {n : Nat} : allB (fun i => p i && q i) n = (allB p n && allB q n) := by
  cases h : allB p n && allB q n
  · cases h2 : allB (fun i => p i && q i) n
    · rfl
    · have h2 := allB_true.1 h2
      have h3 : allB p n = true := allB_true.2 fun i hi => by
        have := h2 i hi
        simp only [Bool.and_eq_true] at this
        exact this.1
      have h4 : allB q n = true := allB_true.2 fun i hi => by
        have := h2 i hi
        simp only [Bool.and_eq_true] at this
        exact this.2
      rw [h3, h4] at h
      cases h
  · simp only [Bool.and_eq_true] at h
    exact allB_true.2 fun i hi => by rw [allB_true.1 h.1 i hi, allB_true.1 h.2 i hi]; rfl
theorem reps_low {v : View} {l : List Rpt} (h : repsB v l = true) : allB (leP (-1) l) l.length = true := by
  have hv : viewB v = true := by
    simp only [repsB, Bool.and_eq_true] at h
    exact h.1
  refine allB_true.2 fun i hi => ?_
  have hg : l.getD i rpt0 = l[i] := by simp [hi]
  have := ((reps_iff hv).1 h).1 _ (List.getElem_mem hi)
  have hlow := @owner_low l[i].rank
  simp only [vrB, Bool.and_eq_true, Bool.or_eq_true, decide_eq_true_eq, usableB, Bool.not_eq_true', decide_eq_false_iff_not] at this
  simp only [leP, hg, Bool.not_eq_true', decide_eq_false_iff_not]
  rcases this.2 with h1 | ⟨h1 | h1, _⟩
  · omega
  · omega
  · have := hlow h1
    omega
theorem agrB_eq (s : Agr) : agrB s = (!(!viewB s.view || !inB s.view.mem s.self || decide (s.wait < 0) || decide (1099511627776 < s.wait)) && (!(!accB s.acc || !decide (s.acc.pro = 0) && !properB s.view s.acc.pro || decide (0 < s.acc.rank) && !properB s.view s.acc.rank || !goodB s.view s.acc.cut || !goodB s.view s.prop || !goodB s.view s.cho || !goodB s.view s.dec || !boxB s.view s.box) && (!(decide (0 ≤ ofBal s.box s.self) && !sameI (s.box.getD (ofBal s.box s.self).toNat bal0).cut s.prop) && (!(!repsB s.view s.reps || !allB (fun i => leP (-1) s.reps i && rkP s.view s.reps i) s.reps.length || !repsB s.view s.accs || !allB (fun i => leP 1 s.accs i && rkP s.view s.accs i) s.accs.length) && phaseB s)))) := by
  have e2 := @reps_low s.view s.reps
  unfold agrB prB
  rw [allB_and, allB_and]
  rw [show ((cutOf s.box s.self).2 && !sameI (cutOf s.box s.self).1 s.prop) = (decide (0 ≤ ofBal s.box s.self) && !sameI (s.box.getD (ofBal s.box s.self).toNat bal0).cut s.prop) from by
    unfold cutOf
    cases decide (0 ≤ ofBal s.box s.self) <;> rfl]
  generalize (!viewB s.view || !inB s.view.mem s.self || decide (s.wait < 0) || decide (1099511627776 < s.wait)) = a1
  generalize (!accB s.acc || !decide (s.acc.pro = 0) && !properB s.view s.acc.pro || decide (0 < s.acc.rank) && !properB s.view s.acc.rank || !goodB s.view s.acc.cut) = a2
  generalize (decide (0 ≤ ofBal s.box s.self) && !sameI (s.box.getD (ofBal s.box s.self).toNat bal0).cut s.prop) = a3
  generalize goodB s.view s.prop = b1
  generalize goodB s.view s.cho = b2
  generalize goodB s.view s.dec = b3
  generalize boxB s.view s.box = b4
  generalize phaseB s = c1
  generalize repsB s.view s.reps = c2 at *
  generalize repsB s.view s.accs = c3
  generalize allB (leP (-1) s.reps) s.reps.length = c4 at *
  generalize allB (rkP s.view s.reps) s.reps.length = c5
  generalize allB (leP 1 s.accs) s.accs.length = c6
  generalize allB (rkP s.view s.accs) s.accs.length = c7
  cases a1
  · cases a2
    · cases a3
      · cases b1 <;> cases b2 <;> cases b3 <;> cases b4 <;> simp
        cases c2
        · simp
        · rw [e2 rfl]
          cases c1 <;> cases c3 <;> cases c5 <;> cases c6 <;> cases c7 <;> rfl
      · simp
    · simp
  · rfl
theorem phase_ref (s : Agr) : (bif !decide (s.rank = 0) && (!properB s.view s.rank || !decide (ownerOf s.rank = s.self)) || decide (s.phase < 0) || decide (2 < s.phase) then false
    else bif decide (s.phase = 0) then decide ((s.reps.length : Int) = 0) && decide ((s.cho.length : Int) = 0)
    else !decide (s.rank = 0) && decide (0 < (s.prop.length : Int)) && decide (0 ≤ ofB s.reps s.self) && (decide (0 < (s.cho.length : Int)) == decide (s.phase = 2)) && (decide (s.phase = 2) || decide ((s.reps.length : Int) < majB s.view.mem.length))) = phaseB s := by
  unfold phaseB
  generalize (!decide (s.rank = 0) && (!properB s.view s.rank || !decide (ownerOf s.rank = s.self))) = a1
  generalize decide ((s.reps.length : Int) = 0) = a2
  have hc : decide ((s.cho.length : Int) = 0) = !decide (0 < (s.cho.length : Int)) := by
    by_cases h : (s.cho.length : Int) = 0
    · rw [decide_eq_true h, h]
      rfl
    · rw [decide_eq_false h, decide_eq_true (show 0 < (s.cho.length : Int) by omega)]
      rfl
  rw [hc]
  generalize decide (0 < (s.cho.length : Int)) = a3
  generalize decide ((s.reps.length : Int) < majB s.view.mem.length) = a4
  generalize decide (0 ≤ ofB s.reps s.self) = a5
  generalize decide (0 < (s.prop.length : Int)) = a6
  generalize decide (s.rank = 0) = a7
  by_cases p0 : s.phase = 0
  · cases a1 <;> cases a2 <;> cases a3 <;> simp [p0]
  · by_cases p1 : s.phase = 1
    · cases a1 <;> cases a3 <;> cases a4 <;> cases a5 <;> cases a6 <;> cases a7 <;> simp [p1]
    · by_cases p2 : s.phase = 2
      · cases a1 <;> cases a3 <;> cases a4 <;> cases a5 <;> cases a6 <;> cases a7 <;> simp [p2]
      · have hr : (decide (s.phase < 0) || decide (2 < s.phase)) = true := by
          simp only [Bool.or_eq_true, decide_eq_true_eq]
          omega
        rw [Bool.or_assoc, hr, Bool.or_true, cond_true, decide_eq_false p0, decide_eq_false p1, decide_eq_false p2]
        cases a1 <;> cases a3 <;> rfl
set_option maxHeartbeats 8000000 in
theorem c_ref10_Valid (s : Agr) (hs : SmA s) : Ret Try.prog 13 [.agg (agrE s)] (.v (.bool (agrB s))) := by
  have hvm := mx hs.mem
  have e48 := c_ref8_Valid s.view (by have := hs.mem; omega) s.box (mx hs.box) (fun b hb => by have := hs.boxc b hb; omega)
  have e49 := c_ref8_Of s.box (mx hs.box) s.self
  have eacc := c_ref9_Valid s.acc (mx hs.acut)
  have o1 := c_ref10_Good s.view (by have := hs.mem; omega) s.acc.cut (by have := hs.acut; omega)
  have o2 := c_ref10_Good s.view (by have := hs.mem; omega) s.prop (by have := hs.prop; omega)
  have o3 := c_ref10_Good s.view (by have := hs.mem; omega) s.cho (by have := hs.cho; omega)
  have o4 := c_ref10_Good s.view (by have := hs.mem; omega) s.dec (by have := hs.dec; omega)
  have eo := c_ref9_Owner s.rank
  rw [ownerRef_eq] at eo
  have e51 := c_ref9_ValidReports s.view (by have := hs.mem; omega) s.reps (mx hs.reps) (fun b hb => by have := hs.repc b hb; omega)
  have e51' := c_ref9_ValidReports s.view (by have := hs.mem; omega) s.accs (mx hs.accs) (fun b hb => by have := hs.accc b hb; omega)
  have e52 := c_ref10_ranks s.view (by have := hs.mem; omega) s.reps (mx hs.reps) (-1)
  have e52' := c_ref10_ranks s.view (by have := hs.mem; omega) s.accs (mx hs.accs) 1
  have e53 := c_ref9_Of s.reps (mx hs.reps) s.self
  have hix := @ofb_ix s.box s.self
  have hcut : (s.box.getD (ofBal s.box s.self).toNat bal0).cut.length ≤ maxLen := by
    rcases Nat.lt_or_ge (ofBal s.box s.self).toNat s.box.length with h | h
    · simp only [List.getD_eq_getElem?_getD, List.getElem?_eq_getElem h, Option.getD_some]
      exact mx (hs.boxc _ (List.getElem_mem h))
    · simp only [List.getD_eq_getElem?_getD, List.getElem?_eq_none h, Option.getD_none]
      exact Nat.zero_le _
  have e34 := c_ref1_SameInts (s.box.getD (ofBal s.box s.self).toNat bal0).cut s.prop hcut
  have hph := phase_ref s
  rw [agrB_eq]
  generalize (s.box.getD (ofBal s.box s.self).toNat bal0) = X at *
  generalize phaseB s = PB at *
  generalize allB (fun i => leP (-1) s.reps i && rkP s.view s.reps i) s.reps.length = R1 at *
  generalize allB (fun i => leP 1 s.accs i && rkP s.view s.accs i) s.accs.length = R2 at *
  generalize repsB s.view s.reps = R3 at *
  generalize repsB s.view s.accs = R4 at *
  generalize accB s.acc = R5 at *
  generalize boxB s.view s.box = R6 at *
  refine ret_of_body (fn := Try.f13) (c := Try.f13.body.getD .skip) hm hT (by kernel_rfl) Try.func13 (by kernel_rfl) (by kernel_rfl) (by kernel_rfl) (by kernel_rfl) ?_
  repeat' ((conv => whnf); first | refine And.intro (fun h => h) ?_ | refine dcond_t (by assumption) ?_ | refine dcond_f (by assumption) ?_ | (refine dcond_intro ?_ ?_ <;> intro h) | exact .refl | refine And.intro (by kernel_rfl) ?_ | refine And.intro ⟨fun h => h, fun h => h⟩ ?_ | refine .inl ⟨_, _, DleAll_refl _, c_ref3_Valid _ hvm, ?_⟩ | refine ⟨_, _, DleAll_refl _, fun _ => c_ref3_Valid _ hvm, ?_⟩ | refine ⟨_, _, DleAll_refl _, c_ref3_Valid _ hvm, ?_⟩ | refine .inl ⟨_, _, DleAll_refl _, c_ref3_Contains _ hvm _, ?_⟩ | refine ⟨_, _, DleAll_refl _, fun _ => c_ref3_Contains _ hvm _, ?_⟩ | refine ⟨_, _, DleAll_refl _, c_ref3_Contains _ hvm _, ?_⟩ | refine .inl ⟨_, _, DleAll_refl _, eacc, ?_⟩ | refine ⟨_, _, DleAll_refl _, fun _ => eacc, ?_⟩ | refine ⟨_, _, DleAll_refl _, eacc, ?_⟩ | refine .inl ⟨_, _, DleAll_refl _, c_ref10_Proper _ hvm _, ?_⟩ | refine ⟨_, _, DleAll_refl _, fun _ => c_ref10_Proper _ hvm _, ?_⟩ | refine ⟨_, _, DleAll_refl _, c_ref10_Proper _ hvm _, ?_⟩ | refine .inl ⟨_, _, DleAll_refl _, o1, ?_⟩ | refine ⟨_, _, DleAll_refl _, fun _ => o1, ?_⟩ | refine ⟨_, _, DleAll_refl _, o1, ?_⟩ | refine .inl ⟨_, _, DleAll_refl _, o2, ?_⟩ | refine ⟨_, _, DleAll_refl _, fun _ => o2, ?_⟩ | refine ⟨_, _, DleAll_refl _, o2, ?_⟩ | refine .inl ⟨_, _, DleAll_refl _, o3, ?_⟩ | refine ⟨_, _, DleAll_refl _, fun _ => o3, ?_⟩ | refine ⟨_, _, DleAll_refl _, o3, ?_⟩ | refine .inl ⟨_, _, DleAll_refl _, o4, ?_⟩ | refine ⟨_, _, DleAll_refl _, fun _ => o4, ?_⟩ | refine ⟨_, _, DleAll_refl _, o4, ?_⟩ | refine .inl ⟨_, _, DleAll_refl _, e48, ?_⟩ | refine ⟨_, _, DleAll_refl _, fun _ => e48, ?_⟩ | refine ⟨_, _, DleAll_refl _, e48, ?_⟩ | refine .inl ⟨_, _, DleAll_refl _, e49, ?_⟩ | refine ⟨_, _, DleAll_refl _, fun _ => e49, ?_⟩ | refine ⟨_, _, DleAll_refl _, e49, ?_⟩ | refine ⟨(ofBal s.box s.self).toNat, balE X, And.intro ⟨⟨fun h => h, fun h => h⟩, fun hg => hix hg⟩ ?_⟩ | refine .inl ⟨_, _, DleAll_refl _, e34, ?_⟩ | refine ⟨_, _, DleAll_refl _, fun _ => e34, ?_⟩ | refine ⟨_, _, DleAll_refl _, e34, ?_⟩ | refine .inl ⟨_, _, DleAll_refl _, eo, ?_⟩ | refine ⟨_, _, DleAll_refl _, fun _ => eo, ?_⟩ | refine ⟨_, _, DleAll_refl _, eo, ?_⟩ | refine .inl ⟨_, _, DleAll_refl _, e51, ?_⟩ | refine ⟨_, _, DleAll_refl _, fun _ => e51, ?_⟩ | refine ⟨_, _, DleAll_refl _, e51, ?_⟩ | refine .inl ⟨_, _, DleAll_refl _, e51', ?_⟩ | refine ⟨_, _, DleAll_refl _, fun _ => e51', ?_⟩ | refine ⟨_, _, DleAll_refl _, e51', ?_⟩ | refine .inl ⟨_, _, DleAll_refl _, e52, ?_⟩ | refine ⟨_, _, DleAll_refl _, fun _ => e52, ?_⟩ | refine ⟨_, _, DleAll_refl _, e52, ?_⟩ | refine .inl ⟨_, _, DleAll_refl _, e52', ?_⟩ | refine ⟨_, _, DleAll_refl _, fun _ => e52', ?_⟩ | refine ⟨_, _, DleAll_refl _, e52', ?_⟩ | refine .inl ⟨_, _, DleAll_refl _, e53, ?_⟩ | refine ⟨_, _, DleAll_refl _, fun _ => e53, ?_⟩ | refine ⟨_, _, DleAll_refl _, e53, ?_⟩ | refine .inl ⟨_, _, DleAll_refl _, c_ref3_Majority _, ?_⟩ | refine ⟨_, _, DleAll_refl _, fun _ => c_ref3_Majority _, ?_⟩ | refine ⟨_, _, DleAll_refl _, c_ref3_Majority _, ?_⟩ | refine Exists.intro false ?_ | (refine And.intro ?_ ?_; focus (simp; done)) | fail)
  all_goals (conv => whnf)
  · refine dle_bool ?_
    simp only [h, Bool.not_true, Bool.false_and]
  · rename_i h1
    refine dle_bool ?_
    simp only [h1, h, Bool.not_true, Bool.not_false, Bool.true_and, Bool.false_and]
  · rename_i h1 h2
    refine dle_bool ?_
    simp only [h1, h2, h, Bool.not_true, Bool.not_false, Bool.true_and, Bool.false_and]
  · rename_i h1 h2 h3
    refine dle_bool ?_
    rw [h, cond_true] at hph
    rw [← hph, Bool.and_false, Bool.and_false, Bool.and_false, Bool.and_false]
  · rename_i h1 h2 h3 h4
    refine dle_bool ?_
    simp only [h1, h2, h3, h, Bool.not_true, Bool.not_false, Bool.true_and, Bool.false_and]
  · rename_i h1 h2 h3 h4 h5
    refine dle_bool ?_
    rw [h4, cond_false, h, cond_true] at hph
    simp only [h1, h2, h3, h5, Bool.not_false, Bool.true_and]
    rw [← hph, List.length_map, List.length_map]
  · rename_i h1 h2 h3 h4 h5
    refine dle_bool ?_
    rw [h4, cond_false, h, cond_false] at hph
    simp only [h1, h2, h3, h5, Bool.not_false, Bool.true_and]
    rw [← hph, List.length_map, List.length_map, List.length_map, List.length_map]
end Go.Proofs.Ytmbniilpgbjcfaa

set_option linter.unusedSimpArgs false
set_option linter.unusedVariables false
set_option maxRecDepth 100000
namespace Go.Proofs.Ytmbniilpgbjcfaa
open Go.Lift
/-! the agreement: what is the same, what wakes up -/
theorem c_ref8_Same (l : List Bal) (hl : l.length ≤ maxLen) (hc : ∀ r ∈ l, r.cut.length ≤ maxLen) : Ret Try.prog 35 [.lst 2 (l.map balE) false, .lst 2 (l.map balE) false] (.v (.bool true)) := by
  have hl' : l.length ≤ 9223372036854775807 := hl
  refine ret_of_body (fn := Try.f35) (c := Try.f35.body.getD .skip) hm hT (by kernel_rfl) Try.func35 (by kernel_rfl) (by kernel_rfl) (by kernel_rfl) (by kernel_rfl) ?_
  repeat' ((conv => whnf); first | refine And.intro (fun h => h) ?_ | refine dcond_t (by assumption) ?_ | refine dcond_f (by assumption) ?_ | (refine dcond_intro ?_ ?_ <;> intro h) | exact .refl | refine And.intro (by kernel_rfl) ?_ | refine And.intro ⟨fun h => h, fun h => h⟩ ?_ | refine Exists.intro false ?_ | (refine And.intro ?_ ?_; focus (simp; done)) | fail)
  · exfalso
    simp at h
  · refine ⟨Nat, fun i => ⟨[(0, .lst 2 (l.map balE) false), (1, .lst 2 (l.map balE) false), (5, i64 i)], []⟩, fun i => i ≤ l.length, fun i => l.length - i, [], ⟨0, Nat.zero_le _, ?_⟩, ?_⟩
    · exact ⟨by repeat' ((conv => whnf); first | exact trivial | refine And.intro (by (conv => arg 1; whnf); first | (with_reducible exact .refl) | exact dle_int (wrap_succ (by omega)) | exact .refl) ?_), by repeat' ((conv => whnf); first | exact trivial | refine And.intro ?_ ?_ | exact .refl), rfl⟩
    · intro i hi
      repeat' ((conv => whnf); first | refine And.intro (fun h => h) ?_ | refine dcond_t (by assumption) ?_ | refine dcond_f (by assumption) ?_ | (refine dcond_intro ?_ ?_ <;> intro h) | exact .refl | refine And.intro (by kernel_rfl) ?_ | refine And.intro ⟨fun h => h, fun h => h⟩ ?_ | refine Exists.intro false ?_ | (refine And.intro ?_ ?_; focus (simp; done)) | fail)
      · have hlt : i < l.length := by simpa using h
        clear h
        have e := c_ref1_SameInts (l[i].cut) (l[i].cut) (hc _ (List.getElem_mem hlt))
        rw [sameI_refl] at e
        repeat' ((conv => whnf); first | refine And.intro (fun h => h) ?_ | refine dcond_t (by assumption) ?_ | refine dcond_f (by assumption) ?_ | (refine dcond_intro ?_ ?_ <;> intro h) | exact .refl | refine And.intro (by kernel_rfl) ?_ | refine And.intro ⟨fun h => h, fun h => h⟩ ?_ | refine ⟨_, _, And.intro ⟨rfl, get_map hlt⟩ ?_⟩ | refine .inl ⟨_, _, DleAll_refl _, e, ?_⟩ | refine ⟨_, _, DleAll_refl _, fun _ => e, ?_⟩ | refine ⟨_, _, DleAll_refl _, e, ?_⟩ | refine ⟨i, balE (l[i]'hlt), And.intro ⟨⟨fun h => h, fun h => h⟩, fun hg => ⟨rfl, get_map hlt⟩⟩ ?_⟩ | refine Exists.intro false ?_ | (refine And.intro ?_ ?_; focus (simp; done)) | fail)
        all_goals (conv => whnf)
        · exfalso
          simp at h
        · refine ⟨i + 1, hlt, by simp only []; omega, ?_⟩
          exact ⟨by repeat' ((conv => whnf); first | exact trivial | refine And.intro (by (conv => arg 1; whnf); first | (with_reducible exact .refl) | exact dle_int (wrap_succ (by omega)) | exact .refl) ?_), by repeat' ((conv => whnf); first | exact trivial | refine And.intro ?_ ?_ | exact .refl), rfl⟩
theorem c_ref3_Same (a b : View) (ha : a.mem.length ≤ maxLen) : Ret Try.prog 32 [.agg (viewE a), .agg (viewE b)] (.v (.bool (decide (a.num = b.num) && sameI a.mem b.mem))) := by
  refine ret_of_body (fn := Try.f32) (c := Try.f32.body.getD .skip) hm hT (by kernel_rfl) Try.func32 (by kernel_rfl) (by kernel_rfl) (by kernel_rfl) (by kernel_rfl) ?_
  repeat' ((conv => whnf); first | refine And.intro (fun h => h) ?_ | refine dcond_t (by assumption) ?_ | refine dcond_f (by assumption) ?_ | (refine dcond_intro ?_ ?_ <;> intro h) | exact .refl | refine And.intro (by kernel_rfl) ?_ | refine And.intro ⟨fun h => h, fun h => h⟩ ?_ | refine .inl ⟨_, _, DleAll_refl _, c_ref1_SameInts _ _ ha, ?_⟩ | refine ⟨_, _, DleAll_refl _, fun _ => c_ref1_SameInts _ _ ha, ?_⟩ | refine ⟨_, _, DleAll_refl _, c_ref1_SameInts _ _ ha, ?_⟩ | refine Exists.intro false ?_ | (refine And.intro ?_ ?_; focus (simp; done)) | fail)
set_option maxHeartbeats 4000000 in
theorem c_ref10_Same (s : Agr) (hs : SmA s) : Ret Try.prog 11 [.agg (agrE s), .agg (agrE s)] (.v (.bool true)) := by
  have e1 := c_ref3_Same s.view s.view (mx hs.mem)
  have e2 := c_ref9_Same s.acc s.acc (mx hs.acut)
  have e3 := c_ref1_SameInts s.prop s.prop (mx hs.prop)
  have e4 := c_ref8_Same s.box (mx hs.box) (fun b hb => mx (hs.boxc b hb))
  have e5 := c_ref9_SameReports s.reps (mx hs.reps) (fun b hb => mx (hs.repc b hb))
  have e6 := c_ref1_SameInts s.cho s.cho (mx hs.cho)
  have e7 := c_ref9_SameReports s.accs (mx hs.accs) (fun b hb => mx (hs.accc b hb))
  have e8 := c_ref1_SameInts s.dec s.dec (mx hs.dec)
  refine ret_of_body (fn := Try.f11) (c := Try.f11.body.getD .skip) hm hT (by kernel_rfl) Try.func11 (by kernel_rfl) (by kernel_rfl) (by kernel_rfl) (by kernel_rfl) ?_
  repeat' ((conv => whnf); first | refine And.intro (fun h => h) ?_ | refine dcond_t (by assumption) ?_ | refine dcond_f (by assumption) ?_ | (refine dcond_intro ?_ ?_ <;> intro h) | exact .refl | refine And.intro (by kernel_rfl) ?_ | refine And.intro ⟨fun h => h, fun h => h⟩ ?_ | refine .inl ⟨_, _, DleAll_refl _, e1, ?_⟩ | refine ⟨_, _, DleAll_refl _, fun _ => e1, ?_⟩ | refine ⟨_, _, DleAll_refl _, e1, ?_⟩ | refine .inl ⟨_, _, DleAll_refl _, e2, ?_⟩ | refine ⟨_, _, DleAll_refl _, fun _ => e2, ?_⟩ | refine ⟨_, _, DleAll_refl _, e2, ?_⟩ | refine .inl ⟨_, _, DleAll_refl _, e3, ?_⟩ | refine ⟨_, _, DleAll_refl _, fun _ => e3, ?_⟩ | refine ⟨_, _, DleAll_refl _, e3, ?_⟩ | refine .inl ⟨_, _, DleAll_refl _, e4, ?_⟩ | refine ⟨_, _, DleAll_refl _, fun _ => e4, ?_⟩ | refine ⟨_, _, DleAll_refl _, e4, ?_⟩ | refine .inl ⟨_, _, DleAll_refl _, e5, ?_⟩ | refine ⟨_, _, DleAll_refl _, fun _ => e5, ?_⟩ | refine ⟨_, _, DleAll_refl _, e5, ?_⟩ | refine .inl ⟨_, _, DleAll_refl _, e6, ?_⟩ | refine ⟨_, _, DleAll_refl _, fun _ => e6, ?_⟩ | refine ⟨_, _, DleAll_refl _, e6, ?_⟩ | refine .inl ⟨_, _, DleAll_refl _, e7, ?_⟩ | refine ⟨_, _, DleAll_refl _, fun _ => e7, ?_⟩ | refine ⟨_, _, DleAll_refl _, e7, ?_⟩ | refine .inl ⟨_, _, DleAll_refl _, e8, ?_⟩ | refine ⟨_, _, DleAll_refl _, fun _ => e8, ?_⟩ | refine ⟨_, _, DleAll_refl _, e8, ?_⟩ | refine Exists.intro false ?_ | (refine And.intro ?_ ?_; focus (simp; done)) | fail)
  all_goals (conv => whnf)
  all_goals (refine dle_bool ?_)
  all_goals simp [sameA, sameI_refl]
def vwA : View := ⟨0, [1, 2]⟩
def sA1 : Agr := ⟨1, vwA, ⟨0, -1, []⟩, [], [], 0, 0, [], [], [], [], 0⟩
def sA2 : Agr := ⟨1, vwA, ⟨0, 0, [7]⟩, [7], [⟨1, [7]⟩], 0, 0, [], [], [], [], 0⟩
def pA1 : Pkt := ⟨0, ⟨1, 0, 1, 0, 0, [7]⟩⟩
def tA1 : Agr := ⟨2, vwA, ⟨0, -1, []⟩, [], [], 0, 0, [], [], [], [], 0⟩
def tA2 : Agr := ⟨2, vwA, ⟨0, 0, [7]⟩, [7], [⟨2, [7]⟩], 0, 0, [], [], [], [], 0⟩
def qA1 : Pkt := ⟨0, ⟨1, 0, 2, 0, 0, [7]⟩⟩
def tA3 : Agr := ⟨2, vwA, ⟨0, 0, [7]⟩, [7], [⟨1, [7]⟩, ⟨2, [7]⟩], 0, 0, [], [], [], [7], 0⟩
def rA1 : Pkt := ⟨0, ⟨6, 0, 2, 0, 0, [7]⟩⟩
def wwA : View := ⟨0, [3]⟩
def oA1 : Agr := ⟨3, wwA, ⟨0, -1, []⟩, [], [], 0, 0, [], [], [], [], 0⟩
def oA2 : Agr := ⟨3, wwA, ⟨0, 0, [4]⟩, [4], [⟨3, [4]⟩], 0, 0, [], [], [], [4], 0⟩
def oP1 : Pkt := ⟨0, ⟨1, 0, 3, 0, 0, [4]⟩⟩
def oP2 : Pkt := ⟨0, ⟨6, 0, 3, 0, 0, [4]⟩⟩
theorem smEx {s : Agr} (h1 : s.view.mem.length ≤ 1000) (h2 : s.acc.cut.length ≤ 1000) (h3 : s.prop.length ≤ 1000) (h4 : s.box.length ≤ 1000) (h5 : ∀ b ∈ s.box, b.cut.length ≤ 1000) (h6 : s.reps = []) (h7 : s.cho.length ≤ 1000) (h8 : s.accs = []) (h9 : s.dec.length ≤ 1000) : SmA s :=
  ⟨h1, h2, h3, h4, h5, (by rw [h6]; exact Nat.zero_le _), (fun b hb => by rw [h6] at hb; cases hb), h7, (by rw [h8]; exact Nat.zero_le _), (fun b hb => by rw [h8] at hb; cases hb), h9⟩
set_option maxHeartbeats 8000000 in
theorem c_law10_awake : Ret Try.prog 7 [] (.v (.bool true)) := by
  have e1 : Ret Try.prog 9 [.agg (viewE vwA), i64 1] (.tup [.agg (agrE sA1), i64 0]) := by
    have := c_agreement_New vwA (by decide) 1
    rw [show newA vwA 1 = (sA1, 0) by kernel_rfl] at this
    exact this
  have e2 : Ret Try.prog 9 [.agg (viewE vwA), i64 2] (.tup [.agg (agrE tA1), i64 0]) := by
    have := c_agreement_New vwA (by decide) 2
    rw [show newA vwA 2 = (tA1, 0) by kernel_rfl] at this
    exact this
  have e3 : Ret Try.prog 9 [.agg (viewE wwA), i64 3] (.tup [.agg (agrE oA1), i64 0]) := by
    have := c_agreement_New wwA (by decide) 3
    rw [show newA wwA 3 = (oA1, 0) by kernel_rfl] at this
    exact this
  have e4 : Ret Try.prog 16 [.agg (agrE sA1), .lst 1 (([7] : List Int).map intE) false] (.tup [.agg (agrE sA2), .lst 7 ([pA1].map pktE) false, i64 0]) := by
    have := c_agreement_Propose sA1 (smEx (by decide) (by decide) (by decide) (by decide) (fun b hb => by cases hb) rfl (by decide) rfl (by decide)) [7] (by decide)
    rw [show propA sA1 [7] = (sA2, [pA1], 0) by kernel_rfl] at this
    exact this
  have e5 : Ret Try.prog 16 [.agg (agrE tA1), .lst 1 (([7] : List Int).map intE) false] (.tup [.agg (agrE tA2), .lst 7 ([qA1].map pktE) false, i64 0]) := by
    have := c_agreement_Propose tA1 (smEx (by decide) (by decide) (by decide) (by decide) (fun b hb => by cases hb) rfl (by decide) rfl (by decide)) [7] (by decide)
    rw [show propA tA1 [7] = (tA2, [qA1], 0) by kernel_rfl] at this
    exact this
  have e6 : Ret Try.prog 16 [.agg (agrE oA1), .lst 1 (([4] : List Int).map intE) false] (.tup [.agg (agrE oA2), .lst 7 ([oP1, oP2].map pktE) false, i64 0]) := by
    have := c_agreement_Propose oA1 (smEx (by decide) (by decide) (by decide) (by decide) (fun b hb => by cases hb) rfl (by decide) rfl (by decide)) [4] (by decide)
    rw [show propA oA1 [4] = (oA2, [oP1, oP2], 0) by kernel_rfl] at this
    exact this
  have e7 : Ret Try.prog 17 [.agg (agrE tA2), .agg (msgE pA1.m)] (.tup [.agg (agrE tA3), .lst 7 ([rA1].map pktE) false, i64 0]) := by
    have := c_Receive_vote tA2 (smEx (by decide) (by decide) (by decide) (by decide) (fun b hb => by
      rcases List.mem_singleton.1 hb with rfl
      decide) rfl (by decide) rfl (by decide)) pA1.m (by decide) (by kernel_rfl) rfl (by kernel_rfl) (by decide) rfl rfl
    rw [show endA (voteA tA2 pA1.m) [] = (tA3, [rA1]) by kernel_rfl] at this
    exact this
  refine ret_of_body (fn := Try.f7) (c := Try.f7.body.getD .skip) hm hT (by kernel_rfl) Try.func7 (by kernel_rfl) (by kernel_rfl) (by kernel_rfl) (by kernel_rfl) ?_
  repeat' ((conv => whnf); first | refine And.intro (fun h => h) ?_ | refine dcond_t (by assumption) ?_ | refine dcond_f (by assumption) ?_ | (refine dcond_intro ?_ ?_ <;> intro h) | exact .refl | refine And.intro (by kernel_rfl) ?_ | refine And.intro ⟨fun h => h, fun h => h⟩ ?_ | refine .inl ⟨_, _, DleAll_refl _, e1, ?_⟩ | refine ⟨_, _, DleAll_refl _, fun _ => e1, ?_⟩ | refine ⟨_, _, DleAll_refl _, e1, ?_⟩ | refine .inl ⟨_, _, DleAll_refl _, e2, ?_⟩ | refine ⟨_, _, DleAll_refl _, fun _ => e2, ?_⟩ | refine ⟨_, _, DleAll_refl _, e2, ?_⟩ | refine .inl ⟨_, _, DleAll_refl _, e3, ?_⟩ | refine ⟨_, _, DleAll_refl _, fun _ => e3, ?_⟩ | refine ⟨_, _, DleAll_refl _, e3, ?_⟩ | refine .inl ⟨_, _, DleAll_refl _, e4, ?_⟩ | refine ⟨_, _, DleAll_refl _, fun _ => e4, ?_⟩ | refine ⟨_, _, DleAll_refl _, e4, ?_⟩ | refine .inl ⟨_, _, DleAll_refl _, e5, ?_⟩ | refine ⟨_, _, DleAll_refl _, fun _ => e5, ?_⟩ | refine ⟨_, _, DleAll_refl _, e5, ?_⟩ | refine .inl ⟨_, _, DleAll_refl _, e6, ?_⟩ | refine ⟨_, _, DleAll_refl _, fun _ => e6, ?_⟩ | refine ⟨_, _, DleAll_refl _, e6, ?_⟩ | refine .inl ⟨_, _, DleAll_refl _, e7, ?_⟩ | refine ⟨_, _, DleAll_refl _, fun _ => e7, ?_⟩ | refine ⟨_, _, DleAll_refl _, e7, ?_⟩ | refine ⟨0, pktE pA1, And.intro ⟨fun h => h, fun _ => ⟨rfl, rfl⟩⟩ ?_⟩ | refine ⟨0, pktE pA1, And.intro ⟨rfl, rfl⟩ ?_⟩ | refine ⟨0, intE 7, And.intro ⟨fun h => h, fun _ => ⟨rfl, rfl⟩⟩ ?_⟩ | refine ⟨0, intE 7, And.intro ⟨rfl, rfl⟩ ?_⟩ | refine ⟨0, pktE rA1, And.intro ⟨fun h => h, fun _ => ⟨rfl, rfl⟩⟩ ?_⟩ | refine ⟨0, pktE rA1, And.intro ⟨rfl, rfl⟩ ?_⟩ | refine Exists.intro false ?_ | (refine And.intro ?_ ?_; focus (simp; done)) | fail)
end Go.Proofs.Ytmbniilpgbjcfaa

set_option linter.unusedSimpArgs false
set_option linter.unusedVariables false
set_option maxRecDepth 100000
namespace Go.Proofs.Ytmbniilpgbjcfaa
open Go.Lift
/-! AgreeStates -/
theorem dat_bal {n : Nat} {r : List DV} (h : Dat tt (n + 3) 88 r) : ∃ a : Bal, r = balE a ∧ a.cut.length ≤ maxLen := by
  obtain ⟨p, q, rfl, ⟨np, rfl, _⟩, l, s, rfl, hl, rfl⟩ := h
  obtain ⟨l, rfl, hll⟩ := dat_ints (n := n) hl
  exact ⟨⟨np, l⟩, rfl, hll⟩
theorem dat_bals {n : Nat} {r : List DV} (h : Dat tt (n + 4) 27 r) : ∃ l : List Bal, r = [.lst 2 (l.map balE) false] ∧ l.length ≤ maxLen := by
  obtain ⟨es, rfl, hl, hes⟩ := h
  obtain ⟨d, rfl, hd⟩ := list_data (f := balE) (Q := fun x => x.cut.length ≤ maxLen) (fun r hr => by
    obtain ⟨a, rfl, hh⟩ := dat_bal (n := n) (hes r hr)
    exact ⟨a, rfl, hh⟩)
  exact ⟨d, rfl, by simpa using hl⟩
theorem dat_agr {n : Nat} {r : List DV} (h : Dat tt (n + 5) 30 r) : ∃ s : Agr, r = agrE s ∧ s.view.mem.length ≤ maxLen ∧ s.box.length ≤ maxLen ∧ s.reps.length ≤ maxLen ∧ s.accs.length ≤ maxLen := by
  obtain ⟨_, _, rfl, ⟨a1, rfl, _⟩, _, _, rfl, h2, _, _, rfl, h3, _, _, rfl, h4, _, _, rfl, h5, _, _, rfl, ⟨a6, rfl, _⟩, _, _, rfl, ⟨a7, rfl, _⟩, _, _, rfl, h8, _, _, rfl, h9, _, _, rfl, h10, _, _, rfl, h11, _, _, rfl, ⟨a12, rfl, _⟩, rfl⟩ := h
  obtain ⟨v, rfl, hv⟩ := dat_view (n := n + 1) h2
  obtain ⟨ac, rfl, _⟩ := dat_acc (n := n + 1) h3
  obtain ⟨pr, rfl, _⟩ := dat_ints (n := n + 2) h4
  obtain ⟨bx, rfl, hb⟩ := dat_bals (n := n) h5
  obtain ⟨re, rfl, hr, _⟩ := dat_rpts (n := n) h8
  obtain ⟨ch, rfl, _⟩ := dat_ints (n := n + 2) h9
  obtain ⟨ap, rfl, ha, _⟩ := dat_rpts (n := n) h10
  obtain ⟨de, rfl, _⟩ := dat_ints (n := n + 2) h11
  exact ⟨⟨a1, v, ac, pr, bx, a6, a7, re, ch, ap, de, a12⟩, rfl, hv, hb, hr, ha⟩
theorem dat_msg {n : Nat} {r : List DV} (h : Dat tt (n + 3) 32 r) : ∃ m : Msg, r = msgE m ∧ m.cut.length ≤ maxLen := by
  obtain ⟨_, _, rfl, ⟨a1, rfl, _⟩, _, _, rfl, ⟨a2, rfl, _⟩, _, _, rfl, ⟨a3, rfl, _⟩, _, _, rfl, ⟨a4, rfl, _⟩, _, _, rfl, ⟨a5, rfl, _⟩, _, _, rfl, h6, rfl⟩ := h
  obtain ⟨l, rfl, hl⟩ := dat_ints (n := n) h6
  exact ⟨⟨a1, a2, a3, a4, a5, l⟩, rfl, hl⟩
theorem new_sm {v : View} (hv : v.mem.length ≤ 1000) (self : Int) : SmA (newA v self).1 := by
  unfold newA
  cases !viewB v || !inB v.mem self
  · exact smEx hv (Nat.zero_le _) (Nat.zero_le _) (Nat.zero_le _) (fun b hb => by cases hb) rfl (Nat.zero_le _) rfl (Nat.zero_le _)
  · exact smEx (Nat.zero_le _) (Nat.zero_le _) (Nat.zero_le _) (Nat.zero_le _) (fun b hb => by cases hb) rfl (Nat.zero_le _) rfl (Nat.zero_le _)
set_option maxHeartbeats 8000000 in
theorem r_AgreeStates (s : Agr) (k1 : s.view.mem.length ≤ maxLen) (k2 : s.box.length ≤ maxLen) (k3 : s.reps.length ≤ maxLen) (k4 : s.accs.length ≤ maxLen) (v : View) (self : Int) (m : Msg) :
    Ret Try.prog 3 [.agg (agrE s), .agg (viewE v), i64 self, .agg (msgE m)] (.v (.bool true)) := by
  have e8 := c_law10_Small s k1 k2 k3 k4
  have hsm := @sm_all s
  refine ret_of_body (fn := Try.f3) (c := Try.f3.body.getD .skip) hm hT (by kernel_rfl) Try.func3 (by kernel_rfl) (by kernel_rfl) (by kernel_rfl) (by kernel_rfl) ?_
  repeat' ((conv => whnf); first | refine And.intro (fun h => h) ?_ | refine dcond_t (by assumption) ?_ | refine dcond_f (by assumption) ?_ | (refine dcond_intro ?_ ?_ <;> intro h) | exact .refl | refine And.intro (by kernel_rfl) ?_ | refine And.intro ⟨fun h => h, fun h => h⟩ ?_ | refine .inl ⟨_, _, DleAll_refl _, c_law10_awake, ?_⟩ | refine ⟨_, _, DleAll_refl _, fun _ => c_law10_awake, ?_⟩ | refine ⟨_, _, DleAll_refl _, c_law10_awake, ?_⟩ | refine .inl ⟨_, _, DleAll_refl _, e8, ?_⟩ | refine ⟨_, _, DleAll_refl _, fun _ => e8, ?_⟩ | refine ⟨_, _, DleAll_refl _, e8, ?_⟩ | refine Exists.intro false ?_ | (refine And.intro ?_ ?_; focus (simp; done)) | fail)
  all_goals (conv => whnf)
  simp only [List.length_map, Bool.or_eq_false_iff, Bool.not_eq_false', decide_eq_false_iff_not] at h
  have hs := hsm h.1.1
  have hv : v.mem.length ≤ 1000 := by omega
  have hc : m.cut.length ≤ 1000 := by omega
  clear h hsm e8
  have e9 := c_agreement_New v (by omega) self
  have e10 := c_ref10_New v (by omega) self
  have e11 := c_ref10_Same _ (new_sm hv self)
  have e12 := c_agreement_Valid s hs
  have e13 := c_ref10_Valid s hs
  have e14 := c_agreement_ValidMessage v (by omega) m (by omega)
  have e15 := c_ref10_ValidMessage v (by omega) m (by omega)
  generalize newA v self = N at *
  generalize agrB s = B at *
  generalize vmB v m = M at *
  repeat' ((conv => whnf); first | refine And.intro (fun h => h) ?_ | refine dcond_t (by assumption) ?_ | refine dcond_f (by assumption) ?_ | (refine dcond_intro ?_ ?_ <;> intro h) | exact .refl | refine And.intro (by kernel_rfl) ?_ | refine And.intro ⟨fun h => h, fun h => h⟩ ?_ | refine .inl ⟨_, _, DleAll_refl _, e9, ?_⟩ | refine ⟨_, _, DleAll_refl _, fun _ => e9, ?_⟩ | refine ⟨_, _, DleAll_refl _, e9, ?_⟩ | refine .inl ⟨_, _, DleAll_refl _, e10, ?_⟩ | refine ⟨_, _, DleAll_refl _, fun _ => e10, ?_⟩ | refine ⟨_, _, DleAll_refl _, e10, ?_⟩ | refine .inl ⟨_, _, DleAll_refl _, e11, ?_⟩ | refine ⟨_, _, DleAll_refl _, fun _ => e11, ?_⟩ | refine ⟨_, _, DleAll_refl _, e11, ?_⟩ | refine .inl ⟨_, _, DleAll_refl _, e12, ?_⟩ | refine ⟨_, _, DleAll_refl _, fun _ => e12, ?_⟩ | refine ⟨_, _, DleAll_refl _, e12, ?_⟩ | refine .inl ⟨_, _, DleAll_refl _, e13, ?_⟩ | refine ⟨_, _, DleAll_refl _, fun _ => e13, ?_⟩ | refine ⟨_, _, DleAll_refl _, e13, ?_⟩ | refine .inl ⟨_, _, DleAll_refl _, e14, ?_⟩ | refine ⟨_, _, DleAll_refl _, fun _ => e14, ?_⟩ | refine ⟨_, _, DleAll_refl _, e14, ?_⟩ | refine .inl ⟨_, _, DleAll_refl _, e15, ?_⟩ | refine ⟨_, _, DleAll_refl _, fun _ => e15, ?_⟩ | refine ⟨_, _, DleAll_refl _, e15, ?_⟩ | refine Exists.intro false ?_ | (refine And.intro ?_ ?_; focus (simp; done)) | fail)
  all_goals (conv => whnf)
  all_goals (refine dle_bool ?_)
  all_goals simp
theorem law_AgreeStates (dvs : List DV) (h : DatAll tt 6 [30, 24, 3, 32] dvs) : Ret Try.prog 3 dvs (.v (.bool true)) := by
  obtain ⟨a1, _, rfl, h1, a2, _, rfl, h2, a3, _, rfl, ⟨self, rfl, _⟩, a4, _, rfl, h4, rfl⟩ := h
  obtain ⟨s, rfl, k1, k2, k3, k4⟩ := dat_agr (n := 1) h1
  obtain ⟨v, rfl, hv⟩ := dat_view (n := 3) h2
  obtain ⟨m, rfl, hm⟩ := dat_msg (n := 3) h4
  exact r_AgreeStates s k1 k2 k3 k4 v self m
end Go.Proofs.Ytmbniilpgbjcfaa
