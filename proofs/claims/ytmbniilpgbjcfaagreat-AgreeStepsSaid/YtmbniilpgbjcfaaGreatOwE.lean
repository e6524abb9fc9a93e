/- The laws of this seat, part OwE: contracts of the functions, plain laws. No conditions. -/
import Derived.Test.YtmbniilpgbjcfaaGreatOwD
set_option maxRecDepth 100000
namespace Go.Proofs.YtmbniilpgbjcfaaGreat
open Go.Lift
set_option maxHeartbeats 16000000 in
theorem c_rT_idle (s : Agr) (hA : AW s) (hf : few s) (h1 : agrB s = true) (h5 : s.dec = []) (h6 : decide (0 < (s.prop.length : Int)) = false) : Ret Tryz.prog 11 [.agg (agrE s)] (.tup [.agg (agrE (endA (stepA s) (rsdA (stepA s))).1), .lst 7 ((endA (stepA s) (rsdA (stepA s))).2.map pktE) false]) := by
  have hs := sm_aw hA
  have e12 := c_ref10_Valid s hs
  rw [h1] at e12
  have hAT := (ok_step hA hf).1
  rw [step_no h6] at hAT ⊢
  obtain ⟨T, hTs⟩ : ∃ T, T = s := ⟨_, rfl⟩
  rw [← hTs] at hAT
  have hg : endA s (rsdA s) = endA T (rsdA T) := by rw [hTs]
  rw [hg]
  clear hg
  have eb := c_ref8_Of T.box (mx (sm_aw hAT).box) T.self
  have ea := c_ref9_Of T.accs (mx (sm_aw hAT).accs) T.self
  have v1 := c_ref10_all T 1 0 (T.box.getD (ofBal T.box T.self).toNat bal0).cut
  have p1 := c_ref10_all T 2 T.rank []
  have p2 := c_ref10_all T 4 T.rank T.cho
  have q1 := c_ref10_all T 5 (T.accs.getD (ofB T.accs T.self).toNat rpt0).rank (T.accs.getD (ofB T.accs T.self).toNat rpt0).cut
  have hbx : decide (0 ≤ ofBal T.box T.self) = true → ofBal T.box T.self = ((ofBal T.box T.self).toNat : Int) ∧ (T.box.map balE)[(ofBal T.box T.self).toNat]? = some (balE (T.box.getD (ofBal T.box T.self).toNat bal0)) := fun h => by
    have h2 := (ofbal_at h).1
    exact ⟨by have := of_decide_eq_true h; omega, by simp [h2]⟩
  have hax : decide (0 ≤ ofB T.accs T.self) = true → ofB T.accs T.self = ((ofB T.accs T.self).toNat : Int) ∧ (T.accs.map rptE)[(ofB T.accs T.self).toNat]? = some (rptE (T.accs.getD (ofB T.accs T.self).toNat rpt0)) := fun h => by
    have h2 := (ofr_ix h).2
    exact ⟨(ofr_ix h).1, by simp [h2]⟩
  have x12 : decide (T.phase = 1) = true → decide (T.phase = 2) = false := fun h => decide_eq_false (by have := of_decide_eq_true h; omega)
  have x21 : decide (T.phase = 2) = true → decide (T.phase = 1) = false := fun h => decide_eq_false (by have := of_decide_eq_true h; omega)
  have f000 := @fin_000 T hAT
  have f001 := @fin_001 T hAT
  have f010 := @fin_010 T hAT
  have f011 := @fin_011 T hAT
  have f020 := @fin_020 T hAT
  have f100 := @fin_100 T hAT
  have f101 := @fin_101 T hAT
  have f110 := @fin_110 T hAT
  have f111 := @fin_111 T hAT
  have f120 := @fin_120 T hAT
  generalize hE : endA T (rsdA T) = E at *
  generalize ofBal T.box T.self = K at *
  generalize ofB T.accs T.self = L at *
  generalize T.box.getD K.toNat bal0 = B at *
  generalize T.accs.getD L.toNat rpt0 = Q at *
  have h5' : decide (0 < ((s.dec.map intE).length : Int)) = false := by rw [h5]; rfl
  have h6' : decide (0 < ((s.prop.map intE).length : Int)) = false := by rw [List.length_map]; exact h6
  clear hE
  subst hTs
  refine ret_of_body (fn := Tryz.f11) (c := Tryz.f11.body.getD .skip) hm hT (by kernel_rfl) Tryz.func11 (by kernel_rfl) (by kernel_rfl) (by kernel_rfl) (by kernel_rfl) ?_
  repeat' ((conv => whnf); first | refine And.intro (fun h => h) ?_ | refine dcond_t (by assumption) ?_ | refine dcond_f (by assumption) ?_ | (refine dcond_intro ?_ ?_ <;> intro h) | exact .refl | refine And.intro (by kernel_rfl) ?_ | refine And.intro ⟨fun h => h, fun h => h⟩ ?_ | refine .inl ⟨_, _, DleAll_refl _, e12, ?_⟩ | refine ⟨_, _, DleAll_refl _, fun _ => e12, ?_⟩ | refine ⟨_, _, DleAll_refl _, e12, ?_⟩ | refine .inl ⟨_, _, DleAll_refl _, eb, ?_⟩ | refine ⟨_, _, DleAll_refl _, fun _ => eb, ?_⟩ | refine ⟨_, _, DleAll_refl _, eb, ?_⟩ | refine .inl ⟨_, _, DleAll_refl _, ea, ?_⟩ | refine ⟨_, _, DleAll_refl _, fun _ => ea, ?_⟩ | refine ⟨_, _, DleAll_refl _, ea, ?_⟩ | refine ⟨K.toNat, balE B, And.intro ⟨(hbx (by assumption)).1, (hbx (by assumption)).2⟩ ?_⟩ | refine ⟨L.toNat, rptE Q, And.intro ⟨(hax (by assumption)).1, (hax (by assumption)).2⟩ ?_⟩ | refine .inl ⟨_, _, DleAll_refl _, v1, ?_⟩ | refine ⟨_, _, DleAll_refl _, fun _ => v1, ?_⟩ | refine ⟨_, _, DleAll_refl _, v1, ?_⟩ | refine .inl ⟨[_, _, _, .lst 1 (([] : List Int).map intE) false], _, ⟨.refl, .refl, .refl, .nl, trivial⟩, p1, ?_⟩ | refine .inl ⟨_, _, DleAll_refl _, p2, ?_⟩ | refine ⟨_, _, DleAll_refl _, fun _ => p2, ?_⟩ | refine ⟨_, _, DleAll_refl _, p2, ?_⟩ | refine .inl ⟨_, _, DleAll_refl _, q1, ?_⟩ | refine ⟨_, _, DleAll_refl _, fun _ => q1, ?_⟩ | refine ⟨_, _, DleAll_refl _, q1, ?_⟩ | refine And.intro (fitsP (by simp <;> omega)) ?_ | refine .inl ⟨_, _, DleAll_refl _, f000 (by assumption) (by assumption) (by assumption) (by assumption), ?_⟩ | refine ⟨_, _, DleAll_refl _, fun _ => f000 (by assumption) (by assumption) (by assumption) (by assumption), ?_⟩ | refine ⟨_, _, DleAll_refl _, f000 (by assumption) (by assumption) (by assumption) (by assumption), ?_⟩ | refine .inr ⟨[1], _, _, _, _, _, f001 (by assumption) (by assumption) (by assumption) (by assumption), by rfl, ⟨.refl, trivial⟩, ⟨.refl, .refl, trivial⟩, ?_⟩ | refine .inr ⟨[2], _, _, _, _, _, f001 (by assumption) (by assumption) (by assumption) (by assumption), by rfl, ⟨.refl, trivial⟩, ⟨.refl, .refl, trivial⟩, ?_⟩ | refine .inr ⟨[3], _, _, _, _, _, f001 (by assumption) (by assumption) (by assumption) (by assumption), by rfl, ⟨.refl, trivial⟩, ⟨.refl, .refl, trivial⟩, ?_⟩ | refine .inr ⟨[4], _, _, _, _, _, f001 (by assumption) (by assumption) (by assumption) (by assumption), by rfl, ⟨.refl, trivial⟩, ⟨.refl, .refl, trivial⟩, ?_⟩ | refine .inr ⟨[5], _, _, _, _, _, f001 (by assumption) (by assumption) (by assumption) (by assumption), by rfl, ⟨.refl, trivial⟩, ⟨.refl, .refl, trivial⟩, ?_⟩ | refine .inr ⟨[6], _, _, _, _, _, f001 (by assumption) (by assumption) (by assumption) (by assumption), by rfl, ⟨.refl, trivial⟩, ⟨.refl, .refl, trivial⟩, ?_⟩ | refine .inr ⟨[7], _, _, _, _, _, f001 (by assumption) (by assumption) (by assumption) (by assumption), by rfl, ⟨.refl, trivial⟩, ⟨.refl, .refl, trivial⟩, ?_⟩ | refine .inr ⟨[8], _, _, _, _, _, f001 (by assumption) (by assumption) (by assumption) (by assumption), by rfl, ⟨.refl, trivial⟩, ⟨.refl, .refl, trivial⟩, ?_⟩ | refine .inr ⟨[1], _, _, _, _, _, f010 (by assumption) (by assumption) (by assumption) (by assumption), by rfl, ⟨.refl, trivial⟩, ⟨.refl, .refl, trivial⟩, ?_⟩ | refine .inr ⟨[2], _, _, _, _, _, f010 (by assumption) (by assumption) (by assumption) (by assumption), by rfl, ⟨.refl, trivial⟩, ⟨.refl, .refl, trivial⟩, ?_⟩ | refine .inr ⟨[3], _, _, _, _, _, f010 (by assumption) (by assumption) (by assumption) (by assumption), by rfl, ⟨.refl, trivial⟩, ⟨.refl, .refl, trivial⟩, ?_⟩ | refine .inr ⟨[4], _, _, _, _, _, f010 (by assumption) (by assumption) (by assumption) (by assumption), by rfl, ⟨.refl, trivial⟩, ⟨.refl, .refl, trivial⟩, ?_⟩ | refine .inr ⟨[5], _, _, _, _, _, f010 (by assumption) (by assumption) (by assumption) (by assumption), by rfl, ⟨.refl, trivial⟩, ⟨.refl, .refl, trivial⟩, ?_⟩ | refine .inr ⟨[6], _, _, _, _, _, f010 (by assumption) (by assumption) (by assumption) (by assumption), by rfl, ⟨.refl, trivial⟩, ⟨.refl, .refl, trivial⟩, ?_⟩ | refine .inr ⟨[7], _, _, _, _, _, f010 (by assumption) (by assumption) (by assumption) (by assumption), by rfl, ⟨.refl, trivial⟩, ⟨.refl, .refl, trivial⟩, ?_⟩ | refine .inr ⟨[8], _, _, _, _, _, f010 (by assumption) (by assumption) (by assumption) (by assumption), by rfl, ⟨.refl, trivial⟩, ⟨.refl, .refl, trivial⟩, ?_⟩ | refine .inr ⟨[1], _, _, _, _, _, f011 (by assumption) (by assumption) (by assumption) (by assumption), by rfl, ⟨.refl, trivial⟩, ⟨.refl, .refl, trivial⟩, ?_⟩ | refine .inr ⟨[2], _, _, _, _, _, f011 (by assumption) (by assumption) (by assumption) (by assumption), by rfl, ⟨.refl, trivial⟩, ⟨.refl, .refl, trivial⟩, ?_⟩ | refine .inr ⟨[3], _, _, _, _, _, f011 (by assumption) (by assumption) (by assumption) (by assumption), by rfl, ⟨.refl, trivial⟩, ⟨.refl, .refl, trivial⟩, ?_⟩ | refine .inr ⟨[4], _, _, _, _, _, f011 (by assumption) (by assumption) (by assumption) (by assumption), by rfl, ⟨.refl, trivial⟩, ⟨.refl, .refl, trivial⟩, ?_⟩ | refine .inr ⟨[5], _, _, _, _, _, f011 (by assumption) (by assumption) (by assumption) (by assumption), by rfl, ⟨.refl, trivial⟩, ⟨.refl, .refl, trivial⟩, ?_⟩ | refine .inr ⟨[6], _, _, _, _, _, f011 (by assumption) (by assumption) (by assumption) (by assumption), by rfl, ⟨.refl, trivial⟩, ⟨.refl, .refl, trivial⟩, ?_⟩ | refine .inr ⟨[7], _, _, _, _, _, f011 (by assumption) (by assumption) (by assumption) (by assumption), by rfl, ⟨.refl, trivial⟩, ⟨.refl, .refl, trivial⟩, ?_⟩ | refine .inr ⟨[8], _, _, _, _, _, f011 (by assumption) (by assumption) (by assumption) (by assumption), by rfl, ⟨.refl, trivial⟩, ⟨.refl, .refl, trivial⟩, ?_⟩ | refine .inr ⟨[1], _, _, _, _, _, f020 (by assumption) (by assumption) (by assumption), by rfl, ⟨.refl, trivial⟩, ⟨.refl, .refl, trivial⟩, ?_⟩ | refine .inr ⟨[2], _, _, _, _, _, f020 (by assumption) (by assumption) (by assumption), by rfl, ⟨.refl, trivial⟩, ⟨.refl, .refl, trivial⟩, ?_⟩ | refine .inr ⟨[3], _, _, _, _, _, f020 (by assumption) (by assumption) (by assumption), by rfl, ⟨.refl, trivial⟩, ⟨.refl, .refl, trivial⟩, ?_⟩ | refine .inr ⟨[4], _, _, _, _, _, f020 (by assumption) (by assumption) (by assumption), by rfl, ⟨.refl, trivial⟩, ⟨.refl, .refl, trivial⟩, ?_⟩ | refine .inr ⟨[5], _, _, _, _, _, f020 (by assumption) (by assumption) (by assumption), by rfl, ⟨.refl, trivial⟩, ⟨.refl, .refl, trivial⟩, ?_⟩ | refine .inr ⟨[6], _, _, _, _, _, f020 (by assumption) (by assumption) (by assumption), by rfl, ⟨.refl, trivial⟩, ⟨.refl, .refl, trivial⟩, ?_⟩ | refine .inr ⟨[7], _, _, _, _, _, f020 (by assumption) (by assumption) (by assumption), by rfl, ⟨.refl, trivial⟩, ⟨.refl, .refl, trivial⟩, ?_⟩ | refine .inr ⟨[8], _, _, _, _, _, f020 (by assumption) (by assumption) (by assumption), by rfl, ⟨.refl, trivial⟩, ⟨.refl, .refl, trivial⟩, ?_⟩ | refine .inr ⟨[1], _, _, _, _, _, f100 (by assumption) (by assumption) (by assumption) (by assumption), by rfl, ⟨.refl, trivial⟩, ⟨.refl, .refl, trivial⟩, ?_⟩ | refine .inr ⟨[2], _, _, _, _, _, f100 (by assumption) (by assumption) (by assumption) (by assumption), by rfl, ⟨.refl, trivial⟩, ⟨.refl, .refl, trivial⟩, ?_⟩ | refine .inr ⟨[3], _, _, _, _, _, f100 (by assumption) (by assumption) (by assumption) (by assumption), by rfl, ⟨.refl, trivial⟩, ⟨.refl, .refl, trivial⟩, ?_⟩ | refine .inr ⟨[4], _, _, _, _, _, f100 (by assumption) (by assumption) (by assumption) (by assumption), by rfl, ⟨.refl, trivial⟩, ⟨.refl, .refl, trivial⟩, ?_⟩ | refine .inr ⟨[5], _, _, _, _, _, f100 (by assumption) (by assumption) (by assumption) (by assumption), by rfl, ⟨.refl, trivial⟩, ⟨.refl, .refl, trivial⟩, ?_⟩ | refine .inr ⟨[6], _, _, _, _, _, f100 (by assumption) (by assumption) (by assumption) (by assumption), by rfl, ⟨.refl, trivial⟩, ⟨.refl, .refl, trivial⟩, ?_⟩ | refine .inr ⟨[7], _, _, _, _, _, f100 (by assumption) (by assumption) (by assumption) (by assumption), by rfl, ⟨.refl, trivial⟩, ⟨.refl, .refl, trivial⟩, ?_⟩ | refine .inr ⟨[8], _, _, _, _, _, f100 (by assumption) (by assumption) (by assumption) (by assumption), by rfl, ⟨.refl, trivial⟩, ⟨.refl, .refl, trivial⟩, ?_⟩ | refine .inr ⟨[1], _, _, _, _, _, f101 (by assumption) (by assumption) (by assumption) (by assumption), by rfl, ⟨.refl, trivial⟩, ⟨.refl, .refl, trivial⟩, ?_⟩ | refine .inr ⟨[2], _, _, _, _, _, f101 (by assumption) (by assumption) (by assumption) (by assumption), by rfl, ⟨.refl, trivial⟩, ⟨.refl, .refl, trivial⟩, ?_⟩ | refine .inr ⟨[3], _, _, _, _, _, f101 (by assumption) (by assumption) (by assumption) (by assumption), by rfl, ⟨.refl, trivial⟩, ⟨.refl, .refl, trivial⟩, ?_⟩ | refine .inr ⟨[4], _, _, _, _, _, f101 (by assumption) (by assumption) (by assumption) (by assumption), by rfl, ⟨.refl, trivial⟩, ⟨.refl, .refl, trivial⟩, ?_⟩ | refine .inr ⟨[5], _, _, _, _, _, f101 (by assumption) (by assumption) (by assumption) (by assumption), by rfl, ⟨.refl, trivial⟩, ⟨.refl, .refl, trivial⟩, ?_⟩ | refine .inr ⟨[6], _, _, _, _, _, f101 (by assumption) (by assumption) (by assumption) (by assumption), by rfl, ⟨.refl, trivial⟩, ⟨.refl, .refl, trivial⟩, ?_⟩ | refine .inr ⟨[7], _, _, _, _, _, f101 (by assumption) (by assumption) (by assumption) (by assumption), by rfl, ⟨.refl, trivial⟩, ⟨.refl, .refl, trivial⟩, ?_⟩ | refine .inr ⟨[8], _, _, _, _, _, f101 (by assumption) (by assumption) (by assumption) (by assumption), by rfl, ⟨.refl, trivial⟩, ⟨.refl, .refl, trivial⟩, ?_⟩ | refine .inr ⟨[1], _, _, _, _, _, f110 (by assumption) (by assumption) (by assumption) (by assumption), by rfl, ⟨.refl, trivial⟩, ⟨.refl, .refl, trivial⟩, ?_⟩ | refine .inr ⟨[2], _, _, _, _, _, f110 (by assumption) (by assumption) (by assumption) (by assumption), by rfl, ⟨.refl, trivial⟩, ⟨.refl, .refl, trivial⟩, ?_⟩ | refine .inr ⟨[3], _, _, _, _, _, f110 (by assumption) (by assumption) (by assumption) (by assumption), by rfl, ⟨.refl, trivial⟩, ⟨.refl, .refl, trivial⟩, ?_⟩ | refine .inr ⟨[4], _, _, _, _, _, f110 (by assumption) (by assumption) (by assumption) (by assumption), by rfl, ⟨.refl, trivial⟩, ⟨.refl, .refl, trivial⟩, ?_⟩ | refine .inr ⟨[5], _, _, _, _, _, f110 (by assumption) (by assumption) (by assumption) (by assumption), by rfl, ⟨.refl, trivial⟩, ⟨.refl, .refl, trivial⟩, ?_⟩ | refine .inr ⟨[6], _, _, _, _, _, f110 (by assumption) (by assumption) (by assumption) (by assumption), by rfl, ⟨.refl, trivial⟩, ⟨.refl, .refl, trivial⟩, ?_⟩ | refine .inr ⟨[7], _, _, _, _, _, f110 (by assumption) (by assumption) (by assumption) (by assumption), by rfl, ⟨.refl, trivial⟩, ⟨.refl, .refl, trivial⟩, ?_⟩ | refine .inr ⟨[8], _, _, _, _, _, f110 (by assumption) (by assumption) (by assumption) (by assumption), by rfl, ⟨.refl, trivial⟩, ⟨.refl, .refl, trivial⟩, ?_⟩ | refine .inr ⟨[1], _, _, _, _, _, f111 (by assumption) (by assumption) (by assumption) (by assumption), by rfl, ⟨.refl, trivial⟩, ⟨.refl, .refl, trivial⟩, ?_⟩ | refine .inr ⟨[2], _, _, _, _, _, f111 (by assumption) (by assumption) (by assumption) (by assumption), by rfl, ⟨.refl, trivial⟩, ⟨.refl, .refl, trivial⟩, ?_⟩ | refine .inr ⟨[3], _, _, _, _, _, f111 (by assumption) (by assumption) (by assumption) (by assumption), by rfl, ⟨.refl, trivial⟩, ⟨.refl, .refl, trivial⟩, ?_⟩ | refine .inr ⟨[4], _, _, _, _, _, f111 (by assumption) (by assumption) (by assumption) (by assumption), by rfl, ⟨.refl, trivial⟩, ⟨.refl, .refl, trivial⟩, ?_⟩ | refine .inr ⟨[5], _, _, _, _, _, f111 (by assumption) (by assumption) (by assumption) (by assumption), by rfl, ⟨.refl, trivial⟩, ⟨.refl, .refl, trivial⟩, ?_⟩ | refine .inr ⟨[6], _, _, _, _, _, f111 (by assumption) (by assumption) (by assumption) (by assumption), by rfl, ⟨.refl, trivial⟩, ⟨.refl, .refl, trivial⟩, ?_⟩ | refine .inr ⟨[7], _, _, _, _, _, f111 (by assumption) (by assumption) (by assumption) (by assumption), by rfl, ⟨.refl, trivial⟩, ⟨.refl, .refl, trivial⟩, ?_⟩ | refine .inr ⟨[8], _, _, _, _, _, f111 (by assumption) (by assumption) (by assumption) (by assumption), by rfl, ⟨.refl, trivial⟩, ⟨.refl, .refl, trivial⟩, ?_⟩ | refine .inr ⟨[1], _, _, _, _, _, f120 (by assumption) (by assumption) (by assumption), by rfl, ⟨.refl, trivial⟩, ⟨.refl, .refl, trivial⟩, ?_⟩ | refine .inr ⟨[2], _, _, _, _, _, f120 (by assumption) (by assumption) (by assumption), by rfl, ⟨.refl, trivial⟩, ⟨.refl, .refl, trivial⟩, ?_⟩ | refine .inr ⟨[3], _, _, _, _, _, f120 (by assumption) (by assumption) (by assumption), by rfl, ⟨.refl, trivial⟩, ⟨.refl, .refl, trivial⟩, ?_⟩ | refine .inr ⟨[4], _, _, _, _, _, f120 (by assumption) (by assumption) (by assumption), by rfl, ⟨.refl, trivial⟩, ⟨.refl, .refl, trivial⟩, ?_⟩ | refine .inr ⟨[5], _, _, _, _, _, f120 (by assumption) (by assumption) (by assumption), by rfl, ⟨.refl, trivial⟩, ⟨.refl, .refl, trivial⟩, ?_⟩ | refine .inr ⟨[6], _, _, _, _, _, f120 (by assumption) (by assumption) (by assumption), by rfl, ⟨.refl, trivial⟩, ⟨.refl, .refl, trivial⟩, ?_⟩ | refine .inr ⟨[7], _, _, _, _, _, f120 (by assumption) (by assumption) (by assumption), by rfl, ⟨.refl, trivial⟩, ⟨.refl, .refl, trivial⟩, ?_⟩ | refine .inr ⟨[8], _, _, _, _, _, f120 (by assumption) (by assumption) (by assumption), by rfl, ⟨.refl, trivial⟩, ⟨.refl, .refl, trivial⟩, ?_⟩ | refine Exists.intro false ?_ | (refine And.intro ?_ ?_; focus (simp; done)) | fail)
  all_goals (conv => whnf)
  all_goals exact absurd (show decide (T.phase = 2) = true by assumption) (by rw [x12 (by assumption)]; decide)
end Go.Proofs.YtmbniilpgbjcfaaGreat

set_option maxRecDepth 100000
namespace Go.Proofs.YtmbniilpgbjcfaaGreat
open Go.Lift
set_option maxHeartbeats 16000000 in
theorem c_rT_wait (s : Agr) (hA : AW s) (hf : few s) (h1 : agrB s = true) (h5 : s.dec = []) (h6 : decide (0 < (s.prop.length : Int)) = true) (h7 : (dueB s && !decide (attRank s = 0)) = false) : Ret Tryz.prog 11 [.agg (agrE s)] (.tup [.agg (agrE (endA (stepA s) (rsdA (stepA s))).1), .lst 7 ((endA (stepA s) (rsdA (stepA s))).2.map pktE) false]) := by
  have hs := sm_aw hA
  have e12 := c_ref10_Valid s hs
  rw [h1] at e12
  have hAT := (ok_step hA hf).1
  have er : Ret Tryz.prog 47 [.v (.int .i64 (IntKind.i64.wrap ((if IntKind.i64.wrap (s.rank.tdiv 1024) < IntKind.i64.wrap (s.acc.pro.tdiv 1024) then IntKind.i64.wrap (s.acc.pro.tdiv 1024) else IntKind.i64.wrap (s.rank.tdiv 1024)) + 1))), .v (.int .i64 s.self)] (.v (.int .i64 (attRank s))) := by
    have := c_ref9_RankOf (IntKind.i64.wrap ((if IntKind.i64.wrap (s.rank.tdiv 1024) < IntKind.i64.wrap (s.acc.pro.tdiv 1024) then IntKind.i64.wrap (s.acc.pro.tdiv 1024) else IntKind.i64.wrap (s.rank.tdiv 1024)) + 1)) s.self
    rw [rankRef_eq] at this
    exact this
  have ep := c_ref3_Place s.view.mem (mx hs.mem) s.self
  have hd : dueB s = decide (IntKind.i64.wrap (8 + IntKind.i64.wrap (6 * placeB s.view.mem s.self)) ≤ waitA s) := rfl
  rw [step_wait h6 h7] at hAT ⊢
  obtain ⟨T, hTs⟩ : ∃ T, T = { s with wait := waitA s } := ⟨_, rfl⟩
  rw [← hTs] at hAT ⊢
  have eb := c_ref8_Of T.box (mx (sm_aw hAT).box) T.self
  have ea := c_ref9_Of T.accs (mx (sm_aw hAT).accs) T.self
  have v1 := c_ref10_all T 1 0 (T.box.getD (ofBal T.box T.self).toNat bal0).cut
  have p1 := c_ref10_all T 2 T.rank []
  have p2 := c_ref10_all T 4 T.rank T.cho
  have q1 := c_ref10_all T 5 (T.accs.getD (ofB T.accs T.self).toNat rpt0).rank (T.accs.getD (ofB T.accs T.self).toNat rpt0).cut
  have hbx : decide (0 ≤ ofBal T.box T.self) = true → ofBal T.box T.self = ((ofBal T.box T.self).toNat : Int) ∧ (T.box.map balE)[(ofBal T.box T.self).toNat]? = some (balE (T.box.getD (ofBal T.box T.self).toNat bal0)) := fun h => by
    have h2 := (ofbal_at h).1
    exact ⟨by have := of_decide_eq_true h; omega, by simp [h2]⟩
  have hax : decide (0 ≤ ofB T.accs T.self) = true → ofB T.accs T.self = ((ofB T.accs T.self).toNat : Int) ∧ (T.accs.map rptE)[(ofB T.accs T.self).toNat]? = some (rptE (T.accs.getD (ofB T.accs T.self).toNat rpt0)) := fun h => by
    have h2 := (ofr_ix h).2
    exact ⟨(ofr_ix h).1, by simp [h2]⟩
  have x12 : decide (T.phase = 1) = true → decide (T.phase = 2) = false := fun h => decide_eq_false (by have := of_decide_eq_true h; omega)
  have x21 : decide (T.phase = 2) = true → decide (T.phase = 1) = false := fun h => decide_eq_false (by have := of_decide_eq_true h; omega)
  have f000 := @fin_000 T hAT
  have f001 := @fin_001 T hAT
  have f010 := @fin_010 T hAT
  have f011 := @fin_011 T hAT
  have f020 := @fin_020 T hAT
  have f100 := @fin_100 T hAT
  have f101 := @fin_101 T hAT
  have f110 := @fin_110 T hAT
  have f111 := @fin_111 T hAT
  have f120 := @fin_120 T hAT
  generalize hE : endA T (rsdA T) = E at *
  generalize ofBal T.box T.self = K at *
  generalize ofB T.accs T.self = L at *
  generalize T.box.getD K.toNat bal0 = B at *
  generalize T.accs.getD L.toNat rpt0 = Q at *
  have h5' : decide (0 < ((s.dec.map intE).length : Int)) = false := by rw [h5]; rfl
  have h6' : decide (0 < ((s.prop.map intE).length : Int)) = true := by rw [List.length_map]; exact h6
  clear hE
  generalize attRank s = rk at *
  subst hTs
  refine ret_of_body (fn := Tryz.f11) (c := Tryz.f11.body.getD .skip) hm hT (by kernel_rfl) Tryz.func11 (by kernel_rfl) (by kernel_rfl) (by kernel_rfl) (by kernel_rfl) ?_
  repeat' ((conv => whnf); first | refine And.intro (fun h => h) ?_ | refine dcond_t (by assumption) ?_ | refine dcond_f (by assumption) ?_ | (refine dcond_intro ?_ ?_ <;> intro h) | exact .refl | refine And.intro (by kernel_rfl) ?_ | refine And.intro ⟨fun h => h, fun h => h⟩ ?_ | refine .inl ⟨_, _, DleAll_refl _, e12, ?_⟩ | refine ⟨_, _, DleAll_refl _, fun _ => e12, ?_⟩ | refine ⟨_, _, DleAll_refl _, e12, ?_⟩ | refine .inl ⟨_, _, DleAll_refl _, er, ?_⟩ | refine ⟨_, _, DleAll_refl _, fun _ => er, ?_⟩ | refine ⟨_, _, DleAll_refl _, er, ?_⟩ | refine .inl ⟨_, _, DleAll_refl _, ep, ?_⟩ | refine ⟨_, _, DleAll_refl _, fun _ => ep, ?_⟩ | refine ⟨_, _, DleAll_refl _, ep, ?_⟩ | refine .inl ⟨_, _, DleAll_refl _, eb, ?_⟩ | refine ⟨_, _, DleAll_refl _, fun _ => eb, ?_⟩ | refine ⟨_, _, DleAll_refl _, eb, ?_⟩ | refine .inl ⟨_, _, DleAll_refl _, ea, ?_⟩ | refine ⟨_, _, DleAll_refl _, fun _ => ea, ?_⟩ | refine ⟨_, _, DleAll_refl _, ea, ?_⟩ | refine ⟨K.toNat, balE B, And.intro ⟨(hbx (by assumption)).1, (hbx (by assumption)).2⟩ ?_⟩ | refine ⟨L.toNat, rptE Q, And.intro ⟨(hax (by assumption)).1, (hax (by assumption)).2⟩ ?_⟩ | refine .inl ⟨_, _, DleAll_refl _, v1, ?_⟩ | refine ⟨_, _, DleAll_refl _, fun _ => v1, ?_⟩ | refine ⟨_, _, DleAll_refl _, v1, ?_⟩ | refine .inl ⟨[_, _, _, .lst 1 (([] : List Int).map intE) false], _, ⟨.refl, .refl, .refl, .nl, trivial⟩, p1, ?_⟩ | refine .inl ⟨_, _, DleAll_refl _, p2, ?_⟩ | refine ⟨_, _, DleAll_refl _, fun _ => p2, ?_⟩ | refine ⟨_, _, DleAll_refl _, p2, ?_⟩ | refine .inl ⟨_, _, DleAll_refl _, q1, ?_⟩ | refine ⟨_, _, DleAll_refl _, fun _ => q1, ?_⟩ | refine ⟨_, _, DleAll_refl _, q1, ?_⟩ | refine And.intro (fitsP (by simp <;> omega)) ?_ | refine .inl ⟨_, _, DleAll_refl _, f000 (by assumption) (by assumption) (by assumption) (by assumption), ?_⟩ | refine ⟨_, _, DleAll_refl _, fun _ => f000 (by assumption) (by assumption) (by assumption) (by assumption), ?_⟩ | refine ⟨_, _, DleAll_refl _, f000 (by assumption) (by assumption) (by assumption) (by assumption), ?_⟩ | refine .inr ⟨[1], _, _, _, _, _, f001 (by assumption) (by assumption) (by assumption) (by assumption), by rfl, ⟨.refl, trivial⟩, ⟨.refl, .refl, trivial⟩, ?_⟩ | refine .inr ⟨[2], _, _, _, _, _, f001 (by assumption) (by assumption) (by assumption) (by assumption), by rfl, ⟨.refl, trivial⟩, ⟨.refl, .refl, trivial⟩, ?_⟩ | refine .inr ⟨[3], _, _, _, _, _, f001 (by assumption) (by assumption) (by assumption) (by assumption), by rfl, ⟨.refl, trivial⟩, ⟨.refl, .refl, trivial⟩, ?_⟩ | refine .inr ⟨[4], _, _, _, _, _, f001 (by assumption) (by assumption) (by assumption) (by assumption), by rfl, ⟨.refl, trivial⟩, ⟨.refl, .refl, trivial⟩, ?_⟩ | refine .inr ⟨[5], _, _, _, _, _, f001 (by assumption) (by assumption) (by assumption) (by assumption), by rfl, ⟨.refl, trivial⟩, ⟨.refl, .refl, trivial⟩, ?_⟩ | refine .inr ⟨[6], _, _, _, _, _, f001 (by assumption) (by assumption) (by assumption) (by assumption), by rfl, ⟨.refl, trivial⟩, ⟨.refl, .refl, trivial⟩, ?_⟩ | refine .inr ⟨[7], _, _, _, _, _, f001 (by assumption) (by assumption) (by assumption) (by assumption), by rfl, ⟨.refl, trivial⟩, ⟨.refl, .refl, trivial⟩, ?_⟩ | refine .inr ⟨[8], _, _, _, _, _, f001 (by assumption) (by assumption) (by assumption) (by assumption), by rfl, ⟨.refl, trivial⟩, ⟨.refl, .refl, trivial⟩, ?_⟩ | refine .inr ⟨[1], _, _, _, _, _, f010 (by assumption) (by assumption) (by assumption) (by assumption), by rfl, ⟨.refl, trivial⟩, ⟨.refl, .refl, trivial⟩, ?_⟩ | refine .inr ⟨[2], _, _, _, _, _, f010 (by assumption) (by assumption) (by assumption) (by assumption), by rfl, ⟨.refl, trivial⟩, ⟨.refl, .refl, trivial⟩, ?_⟩ | refine .inr ⟨[3], _, _, _, _, _, f010 (by assumption) (by assumption) (by assumption) (by assumption), by rfl, ⟨.refl, trivial⟩, ⟨.refl, .refl, trivial⟩, ?_⟩ | refine .inr ⟨[4], _, _, _, _, _, f010 (by assumption) (by assumption) (by assumption) (by assumption), by rfl, ⟨.refl, trivial⟩, ⟨.refl, .refl, trivial⟩, ?_⟩ | refine .inr ⟨[5], _, _, _, _, _, f010 (by assumption) (by assumption) (by assumption) (by assumption), by rfl, ⟨.refl, trivial⟩, ⟨.refl, .refl, trivial⟩, ?_⟩ | refine .inr ⟨[6], _, _, _, _, _, f010 (by assumption) (by assumption) (by assumption) (by assumption), by rfl, ⟨.refl, trivial⟩, ⟨.refl, .refl, trivial⟩, ?_⟩ | refine .inr ⟨[7], _, _, _, _, _, f010 (by assumption) (by assumption) (by assumption) (by assumption), by rfl, ⟨.refl, trivial⟩, ⟨.refl, .refl, trivial⟩, ?_⟩ | refine .inr ⟨[8], _, _, _, _, _, f010 (by assumption) (by assumption) (by assumption) (by assumption), by rfl, ⟨.refl, trivial⟩, ⟨.refl, .refl, trivial⟩, ?_⟩ | refine .inr ⟨[1], _, _, _, _, _, f011 (by assumption) (by assumption) (by assumption) (by assumption), by rfl, ⟨.refl, trivial⟩, ⟨.refl, .refl, trivial⟩, ?_⟩ | refine .inr ⟨[2], _, _, _, _, _, f011 (by assumption) (by assumption) (by assumption) (by assumption), by rfl, ⟨.refl, trivial⟩, ⟨.refl, .refl, trivial⟩, ?_⟩ | refine .inr ⟨[3], _, _, _, _, _, f011 (by assumption) (by assumption) (by assumption) (by assumption), by rfl, ⟨.refl, trivial⟩, ⟨.refl, .refl, trivial⟩, ?_⟩ | refine .inr ⟨[4], _, _, _, _, _, f011 (by assumption) (by assumption) (by assumption) (by assumption), by rfl, ⟨.refl, trivial⟩, ⟨.refl, .refl, trivial⟩, ?_⟩ | refine .inr ⟨[5], _, _, _, _, _, f011 (by assumption) (by assumption) (by assumption) (by assumption), by rfl, ⟨.refl, trivial⟩, ⟨.refl, .refl, trivial⟩, ?_⟩ | refine .inr ⟨[6], _, _, _, _, _, f011 (by assumption) (by assumption) (by assumption) (by assumption), by rfl, ⟨.refl, trivial⟩, ⟨.refl, .refl, trivial⟩, ?_⟩ | refine .inr ⟨[7], _, _, _, _, _, f011 (by assumption) (by assumption) (by assumption) (by assumption), by rfl, ⟨.refl, trivial⟩, ⟨.refl, .refl, trivial⟩, ?_⟩ | refine .inr ⟨[8], _, _, _, _, _, f011 (by assumption) (by assumption) (by assumption) (by assumption), by rfl, ⟨.refl, trivial⟩, ⟨.refl, .refl, trivial⟩, ?_⟩ | refine .inr ⟨[1], _, _, _, _, _, f020 (by assumption) (by assumption) (by assumption), by rfl, ⟨.refl, trivial⟩, ⟨.refl, .refl, trivial⟩, ?_⟩ | refine .inr ⟨[2], _, _, _, _, _, f020 (by assumption) (by assumption) (by assumption), by rfl, ⟨.refl, trivial⟩, ⟨.refl, .refl, trivial⟩, ?_⟩ | refine .inr ⟨[3], _, _, _, _, _, f020 (by assumption) (by assumption) (by assumption), by rfl, ⟨.refl, trivial⟩, ⟨.refl, .refl, trivial⟩, ?_⟩ | refine .inr ⟨[4], _, _, _, _, _, f020 (by assumption) (by assumption) (by assumption), by rfl, ⟨.refl, trivial⟩, ⟨.refl, .refl, trivial⟩, ?_⟩ | refine .inr ⟨[5], _, _, _, _, _, f020 (by assumption) (by assumption) (by assumption), by rfl, ⟨.refl, trivial⟩, ⟨.refl, .refl, trivial⟩, ?_⟩ | refine .inr ⟨[6], _, _, _, _, _, f020 (by assumption) (by assumption) (by assumption), by rfl, ⟨.refl, trivial⟩, ⟨.refl, .refl, trivial⟩, ?_⟩ | refine .inr ⟨[7], _, _, _, _, _, f020 (by assumption) (by assumption) (by assumption), by rfl, ⟨.refl, trivial⟩, ⟨.refl, .refl, trivial⟩, ?_⟩ | refine .inr ⟨[8], _, _, _, _, _, f020 (by assumption) (by assumption) (by assumption), by rfl, ⟨.refl, trivial⟩, ⟨.refl, .refl, trivial⟩, ?_⟩ | refine .inr ⟨[1], _, _, _, _, _, f100 (by assumption) (by assumption) (by assumption) (by assumption), by rfl, ⟨.refl, trivial⟩, ⟨.refl, .refl, trivial⟩, ?_⟩ | refine .inr ⟨[2], _, _, _, _, _, f100 (by assumption) (by assumption) (by assumption) (by assumption), by rfl, ⟨.refl, trivial⟩, ⟨.refl, .refl, trivial⟩, ?_⟩ | refine .inr ⟨[3], _, _, _, _, _, f100 (by assumption) (by assumption) (by assumption) (by assumption), by rfl, ⟨.refl, trivial⟩, ⟨.refl, .refl, trivial⟩, ?_⟩ | refine .inr ⟨[4], _, _, _, _, _, f100 (by assumption) (by assumption) (by assumption) (by assumption), by rfl, ⟨.refl, trivial⟩, ⟨.refl, .refl, trivial⟩, ?_⟩ | refine .inr ⟨[5], _, _, _, _, _, f100 (by assumption) (by assumption) (by assumption) (by assumption), by rfl, ⟨.refl, trivial⟩, ⟨.refl, .refl, trivial⟩, ?_⟩ | refine .inr ⟨[6], _, _, _, _, _, f100 (by assumption) (by assumption) (by assumption) (by assumption), by rfl, ⟨.refl, trivial⟩, ⟨.refl, .refl, trivial⟩, ?_⟩ | refine .inr ⟨[7], _, _, _, _, _, f100 (by assumption) (by assumption) (by assumption) (by assumption), by rfl, ⟨.refl, trivial⟩, ⟨.refl, .refl, trivial⟩, ?_⟩ | refine .inr ⟨[8], _, _, _, _, _, f100 (by assumption) (by assumption) (by assumption) (by assumption), by rfl, ⟨.refl, trivial⟩, ⟨.refl, .refl, trivial⟩, ?_⟩ | refine .inr ⟨[1], _, _, _, _, _, f101 (by assumption) (by assumption) (by assumption) (by assumption), by rfl, ⟨.refl, trivial⟩, ⟨.refl, .refl, trivial⟩, ?_⟩ | refine .inr ⟨[2], _, _, _, _, _, f101 (by assumption) (by assumption) (by assumption) (by assumption), by rfl, ⟨.refl, trivial⟩, ⟨.refl, .refl, trivial⟩, ?_⟩ | refine .inr ⟨[3], _, _, _, _, _, f101 (by assumption) (by assumption) (by assumption) (by assumption), by rfl, ⟨.refl, trivial⟩, ⟨.refl, .refl, trivial⟩, ?_⟩ | refine .inr ⟨[4], _, _, _, _, _, f101 (by assumption) (by assumption) (by assumption) (by assumption), by rfl, ⟨.refl, trivial⟩, ⟨.refl, .refl, trivial⟩, ?_⟩ | refine .inr ⟨[5], _, _, _, _, _, f101 (by assumption) (by assumption) (by assumption) (by assumption), by rfl, ⟨.refl, trivial⟩, ⟨.refl, .refl, trivial⟩, ?_⟩ | refine .inr ⟨[6], _, _, _, _, _, f101 (by assumption) (by assumption) (by assumption) (by assumption), by rfl, ⟨.refl, trivial⟩, ⟨.refl, .refl, trivial⟩, ?_⟩ | refine .inr ⟨[7], _, _, _, _, _, f101 (by assumption) (by assumption) (by assumption) (by assumption), by rfl, ⟨.refl, trivial⟩, ⟨.refl, .refl, trivial⟩, ?_⟩ | refine .inr ⟨[8], _, _, _, _, _, f101 (by assumption) (by assumption) (by assumption) (by assumption), by rfl, ⟨.refl, trivial⟩, ⟨.refl, .refl, trivial⟩, ?_⟩ | refine .inr ⟨[1], _, _, _, _, _, f110 (by assumption) (by assumption) (by assumption) (by assumption), by rfl, ⟨.refl, trivial⟩, ⟨.refl, .refl, trivial⟩, ?_⟩ | refine .inr ⟨[2], _, _, _, _, _, f110 (by assumption) (by assumption) (by assumption) (by assumption), by rfl, ⟨.refl, trivial⟩, ⟨.refl, .refl, trivial⟩, ?_⟩ | refine .inr ⟨[3], _, _, _, _, _, f110 (by assumption) (by assumption) (by assumption) (by assumption), by rfl, ⟨.refl, trivial⟩, ⟨.refl, .refl, trivial⟩, ?_⟩ | refine .inr ⟨[4], _, _, _, _, _, f110 (by assumption) (by assumption) (by assumption) (by assumption), by rfl, ⟨.refl, trivial⟩, ⟨.refl, .refl, trivial⟩, ?_⟩ | refine .inr ⟨[5], _, _, _, _, _, f110 (by assumption) (by assumption) (by assumption) (by assumption), by rfl, ⟨.refl, trivial⟩, ⟨.refl, .refl, trivial⟩, ?_⟩ | refine .inr ⟨[6], _, _, _, _, _, f110 (by assumption) (by assumption) (by assumption) (by assumption), by rfl, ⟨.refl, trivial⟩, ⟨.refl, .refl, trivial⟩, ?_⟩ | refine .inr ⟨[7], _, _, _, _, _, f110 (by assumption) (by assumption) (by assumption) (by assumption), by rfl, ⟨.refl, trivial⟩, ⟨.refl, .refl, trivial⟩, ?_⟩ | refine .inr ⟨[8], _, _, _, _, _, f110 (by assumption) (by assumption) (by assumption) (by assumption), by rfl, ⟨.refl, trivial⟩, ⟨.refl, .refl, trivial⟩, ?_⟩ | refine .inr ⟨[1], _, _, _, _, _, f111 (by assumption) (by assumption) (by assumption) (by assumption), by rfl, ⟨.refl, trivial⟩, ⟨.refl, .refl, trivial⟩, ?_⟩ | refine .inr ⟨[2], _, _, _, _, _, f111 (by assumption) (by assumption) (by assumption) (by assumption), by rfl, ⟨.refl, trivial⟩, ⟨.refl, .refl, trivial⟩, ?_⟩ | refine .inr ⟨[3], _, _, _, _, _, f111 (by assumption) (by assumption) (by assumption) (by assumption), by rfl, ⟨.refl, trivial⟩, ⟨.refl, .refl, trivial⟩, ?_⟩ | refine .inr ⟨[4], _, _, _, _, _, f111 (by assumption) (by assumption) (by assumption) (by assumption), by rfl, ⟨.refl, trivial⟩, ⟨.refl, .refl, trivial⟩, ?_⟩ | refine .inr ⟨[5], _, _, _, _, _, f111 (by assumption) (by assumption) (by assumption) (by assumption), by rfl, ⟨.refl, trivial⟩, ⟨.refl, .refl, trivial⟩, ?_⟩ | refine .inr ⟨[6], _, _, _, _, _, f111 (by assumption) (by assumption) (by assumption) (by assumption), by rfl, ⟨.refl, trivial⟩, ⟨.refl, .refl, trivial⟩, ?_⟩ | refine .inr ⟨[7], _, _, _, _, _, f111 (by assumption) (by assumption) (by assumption) (by assumption), by rfl, ⟨.refl, trivial⟩, ⟨.refl, .refl, trivial⟩, ?_⟩ | refine .inr ⟨[8], _, _, _, _, _, f111 (by assumption) (by assumption) (by assumption) (by assumption), by rfl, ⟨.refl, trivial⟩, ⟨.refl, .refl, trivial⟩, ?_⟩ | refine .inr ⟨[1], _, _, _, _, _, f120 (by assumption) (by assumption) (by assumption), by rfl, ⟨.refl, trivial⟩, ⟨.refl, .refl, trivial⟩, ?_⟩ | refine .inr ⟨[2], _, _, _, _, _, f120 (by assumption) (by assumption) (by assumption), by rfl, ⟨.refl, trivial⟩, ⟨.refl, .refl, trivial⟩, ?_⟩ | refine .inr ⟨[3], _, _, _, _, _, f120 (by assumption) (by assumption) (by assumption), by rfl, ⟨.refl, trivial⟩, ⟨.refl, .refl, trivial⟩, ?_⟩ | refine .inr ⟨[4], _, _, _, _, _, f120 (by assumption) (by assumption) (by assumption), by rfl, ⟨.refl, trivial⟩, ⟨.refl, .refl, trivial⟩, ?_⟩ | refine .inr ⟨[5], _, _, _, _, _, f120 (by assumption) (by assumption) (by assumption), by rfl, ⟨.refl, trivial⟩, ⟨.refl, .refl, trivial⟩, ?_⟩ | refine .inr ⟨[6], _, _, _, _, _, f120 (by assumption) (by assumption) (by assumption), by rfl, ⟨.refl, trivial⟩, ⟨.refl, .refl, trivial⟩, ?_⟩ | refine .inr ⟨[7], _, _, _, _, _, f120 (by assumption) (by assumption) (by assumption), by rfl, ⟨.refl, trivial⟩, ⟨.refl, .refl, trivial⟩, ?_⟩ | refine .inr ⟨[8], _, _, _, _, _, f120 (by assumption) (by assumption) (by assumption), by rfl, ⟨.refl, trivial⟩, ⟨.refl, .refl, trivial⟩, ?_⟩ | refine Exists.intro false ?_ | (refine And.intro ?_ ?_; focus (simp; done)) | fail)
  all_goals (conv => whnf)
  all_goals exact absurd (show decide (s.phase = 2) = true by assumption) (by rw [x12 (by assumption)]; decide)
end Go.Proofs.YtmbniilpgbjcfaaGreat

set_option maxRecDepth 100000
namespace Go.Proofs.YtmbniilpgbjcfaaGreat
open Go.Lift
set_option maxHeartbeats 16000000 in
theorem c_rT_act (s : Agr) (hA : AW s) (hf : few s) (h1 : agrB s = true) (h5 : s.dec = []) (h6 : decide (0 < (s.prop.length : Int)) = true) (h7 : (dueB s && !decide (attRank s = 0)) = true) : Ret Tryz.prog 11 [.agg (agrE s)] (.tup [.agg (agrE (endA (stepA s) (rsdA (stepA s))).1), .lst 7 ((endA (stepA s) (rsdA (stepA s))).2.map pktE) false]) := by
  have hs := sm_aw hA
  have e12 := c_ref10_Valid s hs
  rw [h1] at e12
  have hAT := (ok_step hA hf).1
  have er : Ret Tryz.prog 47 [.v (.int .i64 (IntKind.i64.wrap ((if IntKind.i64.wrap (s.rank.tdiv 1024) < IntKind.i64.wrap (s.acc.pro.tdiv 1024) then IntKind.i64.wrap (s.acc.pro.tdiv 1024) else IntKind.i64.wrap (s.rank.tdiv 1024)) + 1))), .v (.int .i64 s.self)] (.v (.int .i64 (attRank s))) := by
    have := c_ref9_RankOf (IntKind.i64.wrap ((if IntKind.i64.wrap (s.rank.tdiv 1024) < IntKind.i64.wrap (s.acc.pro.tdiv 1024) then IntKind.i64.wrap (s.acc.pro.tdiv 1024) else IntKind.i64.wrap (s.rank.tdiv 1024)) + 1)) s.self
    rw [rankRef_eq] at this
    exact this
  have ep := c_ref3_Place s.view.mem (mx hs.mem) s.self
  have hd : dueB s = decide (IntKind.i64.wrap (8 + IntKind.i64.wrap (6 * placeB s.view.mem s.self)) ≤ waitA s) := rfl
  have hrn : attRank s ≠ 0 := by
    rw [Bool.and_eq_true, Bool.not_eq_true'] at h7
    exact of_decide_eq_false h7.2
  have eo := c_ref9_OnPrepare s.acc (mx hs.acut) (attRank s)
  obtain ⟨z1, z2, _⟩ := att_eqs hA hrn
  rw [z1, z2] at eo
  have em := c_ref10_majority _ (aw_attS hA h6 hrn)
  rw [step_act hA h6 h7] at hAT ⊢
  generalize hTs : advA (attS s) = T at *
  clear z1 z2 hTs
  have eb := c_ref8_Of T.box (mx (sm_aw hAT).box) T.self
  have ea := c_ref9_Of T.accs (mx (sm_aw hAT).accs) T.self
  have v1 := c_ref10_all T 1 0 (T.box.getD (ofBal T.box T.self).toNat bal0).cut
  have p1 := c_ref10_all T 2 T.rank []
  have p2 := c_ref10_all T 4 T.rank T.cho
  have q1 := c_ref10_all T 5 (T.accs.getD (ofB T.accs T.self).toNat rpt0).rank (T.accs.getD (ofB T.accs T.self).toNat rpt0).cut
  have hbx : decide (0 ≤ ofBal T.box T.self) = true → ofBal T.box T.self = ((ofBal T.box T.self).toNat : Int) ∧ (T.box.map balE)[(ofBal T.box T.self).toNat]? = some (balE (T.box.getD (ofBal T.box T.self).toNat bal0)) := fun h => by
    have h2 := (ofbal_at h).1
    exact ⟨by have := of_decide_eq_true h; omega, by simp [h2]⟩
  have hax : decide (0 ≤ ofB T.accs T.self) = true → ofB T.accs T.self = ((ofB T.accs T.self).toNat : Int) ∧ (T.accs.map rptE)[(ofB T.accs T.self).toNat]? = some (rptE (T.accs.getD (ofB T.accs T.self).toNat rpt0)) := fun h => by
    have h2 := (ofr_ix h).2
    exact ⟨(ofr_ix h).1, by simp [h2]⟩
  have x12 : decide (T.phase = 1) = true → decide (T.phase = 2) = false := fun h => decide_eq_false (by have := of_decide_eq_true h; omega)
  have x21 : decide (T.phase = 2) = true → decide (T.phase = 1) = false := fun h => decide_eq_false (by have := of_decide_eq_true h; omega)
  have f000 := @fin_000 T hAT
  have f001 := @fin_001 T hAT
  have f010 := @fin_010 T hAT
  have f011 := @fin_011 T hAT
  have f020 := @fin_020 T hAT
  have f100 := @fin_100 T hAT
  have f101 := @fin_101 T hAT
  have f110 := @fin_110 T hAT
  have f111 := @fin_111 T hAT
  have f120 := @fin_120 T hAT
  generalize hE : endA T (rsdA T) = E at *
  generalize ofBal T.box T.self = K at *
  generalize ofB T.accs T.self = L at *
  generalize T.box.getD K.toNat bal0 = B at *
  generalize T.accs.getD L.toNat rpt0 = Q at *
  have h5' : decide (0 < ((s.dec.map intE).length : Int)) = false := by rw [h5]; rfl
  have h6' : decide (0 < ((s.prop.map intE).length : Int)) = true := by rw [List.length_map]; exact h6
  clear hE
  unfold attS at em
  generalize attRank s = rk at *
  generalize (prepR s.acc rk).2.2 = ok at *
  refine ret_of_body (fn := Tryz.f11) (c := Tryz.f11.body.getD .skip) hm hT (by kernel_rfl) Tryz.func11 (by kernel_rfl) (by kernel_rfl) (by kernel_rfl) (by kernel_rfl) ?_
  repeat' ((conv => whnf); first | refine And.intro (fun h => h) ?_ | refine dcond_t (by assumption) ?_ | refine dcond_f (by assumption) ?_ | (refine dcond_intro ?_ ?_ <;> intro h) | exact .refl | refine And.intro (by kernel_rfl) ?_ | refine And.intro ⟨fun h => h, fun h => h⟩ ?_ | refine .inl ⟨_, _, DleAll_refl _, e12, ?_⟩ | refine ⟨_, _, DleAll_refl _, fun _ => e12, ?_⟩ | refine ⟨_, _, DleAll_refl _, e12, ?_⟩ | refine .inl ⟨_, _, DleAll_refl _, er, ?_⟩ | refine ⟨_, _, DleAll_refl _, fun _ => er, ?_⟩ | refine ⟨_, _, DleAll_refl _, er, ?_⟩ | refine .inl ⟨_, _, DleAll_refl _, ep, ?_⟩ | refine ⟨_, _, DleAll_refl _, fun _ => ep, ?_⟩ | refine ⟨_, _, DleAll_refl _, ep, ?_⟩ | refine .inl ⟨_, _, DleAll_refl _, eo, ?_⟩ | refine ⟨_, _, DleAll_refl _, fun _ => eo, ?_⟩ | refine ⟨_, _, DleAll_refl _, eo, ?_⟩ | refine .inl ?_ <;> (conv => whnf) <;> refine ⟨[.agg (agrE ⟨s.self, s.view, ⟨rk, s.acc.rank, s.acc.cut⟩, s.prop, s.box, rk, 1, [⟨s.self, s.acc.rank, s.acc.cut⟩], [], s.accs, s.dec, 0⟩)], _, ⟨dle_aggA ⟨.refl, .refl, .refl, .refl, .refl, .refl, .refl, .refl, .refl, .refl, .refl, .nl, .refl, .refl, .refl, trivial⟩, trivial⟩, em, ?_⟩ | refine ⟨_, _, ⟨dle_aggA ⟨.refl, .refl, .refl, .refl, .refl, .refl, .refl, .refl, .refl, .refl, .refl, .nl, .refl, .refl, .refl, trivial⟩, trivial⟩, em, ?_⟩ | refine .inl ⟨_, _, DleAll_refl _, eb, ?_⟩ | refine ⟨_, _, DleAll_refl _, fun _ => eb, ?_⟩ | refine ⟨_, _, DleAll_refl _, eb, ?_⟩ | refine .inl ⟨_, _, DleAll_refl _, ea, ?_⟩ | refine ⟨_, _, DleAll_refl _, fun _ => ea, ?_⟩ | refine ⟨_, _, DleAll_refl _, ea, ?_⟩ | refine ⟨K.toNat, balE B, And.intro ⟨(hbx (by assumption)).1, (hbx (by assumption)).2⟩ ?_⟩ | refine ⟨L.toNat, rptE Q, And.intro ⟨(hax (by assumption)).1, (hax (by assumption)).2⟩ ?_⟩ | refine .inl ⟨_, _, DleAll_refl _, v1, ?_⟩ | refine ⟨_, _, DleAll_refl _, fun _ => v1, ?_⟩ | refine ⟨_, _, DleAll_refl _, v1, ?_⟩ | refine .inl ⟨[_, _, _, .lst 1 (([] : List Int).map intE) false], _, ⟨.refl, .refl, .refl, .nl, trivial⟩, p1, ?_⟩ | refine .inl ⟨_, _, DleAll_refl _, p2, ?_⟩ | refine ⟨_, _, DleAll_refl _, fun _ => p2, ?_⟩ | refine ⟨_, _, DleAll_refl _, p2, ?_⟩ | refine .inl ⟨_, _, DleAll_refl _, q1, ?_⟩ | refine ⟨_, _, DleAll_refl _, fun _ => q1, ?_⟩ | refine ⟨_, _, DleAll_refl _, q1, ?_⟩ | refine And.intro (fitsP (by simp <;> omega)) ?_ | refine .inl ⟨_, _, DleAll_refl _, f000 (by assumption) (by assumption) (by assumption) (by assumption), ?_⟩ | refine ⟨_, _, DleAll_refl _, fun _ => f000 (by assumption) (by assumption) (by assumption) (by assumption), ?_⟩ | refine ⟨_, _, DleAll_refl _, f000 (by assumption) (by assumption) (by assumption) (by assumption), ?_⟩ | refine .inr ⟨[1], _, _, _, _, _, f001 (by assumption) (by assumption) (by assumption) (by assumption), by rfl, ⟨.refl, trivial⟩, ⟨.refl, .refl, trivial⟩, ?_⟩ | refine .inr ⟨[2], _, _, _, _, _, f001 (by assumption) (by assumption) (by assumption) (by assumption), by rfl, ⟨.refl, trivial⟩, ⟨.refl, .refl, trivial⟩, ?_⟩ | refine .inr ⟨[3], _, _, _, _, _, f001 (by assumption) (by assumption) (by assumption) (by assumption), by rfl, ⟨.refl, trivial⟩, ⟨.refl, .refl, trivial⟩, ?_⟩ | refine .inr ⟨[4], _, _, _, _, _, f001 (by assumption) (by assumption) (by assumption) (by assumption), by rfl, ⟨.refl, trivial⟩, ⟨.refl, .refl, trivial⟩, ?_⟩ | refine .inr ⟨[5], _, _, _, _, _, f001 (by assumption) (by assumption) (by assumption) (by assumption), by rfl, ⟨.refl, trivial⟩, ⟨.refl, .refl, trivial⟩, ?_⟩ | refine .inr ⟨[6], _, _, _, _, _, f001 (by assumption) (by assumption) (by assumption) (by assumption), by rfl, ⟨.refl, trivial⟩, ⟨.refl, .refl, trivial⟩, ?_⟩ | refine .inr ⟨[7], _, _, _, _, _, f001 (by assumption) (by assumption) (by assumption) (by assumption), by rfl, ⟨.refl, trivial⟩, ⟨.refl, .refl, trivial⟩, ?_⟩ | refine .inr ⟨[8], _, _, _, _, _, f001 (by assumption) (by assumption) (by assumption) (by assumption), by rfl, ⟨.refl, trivial⟩, ⟨.refl, .refl, trivial⟩, ?_⟩ | refine .inr ⟨[1], _, _, _, _, _, f010 (by assumption) (by assumption) (by assumption) (by assumption), by rfl, ⟨.refl, trivial⟩, ⟨.refl, .refl, trivial⟩, ?_⟩ | refine .inr ⟨[2], _, _, _, _, _, f010 (by assumption) (by assumption) (by assumption) (by assumption), by rfl, ⟨.refl, trivial⟩, ⟨.refl, .refl, trivial⟩, ?_⟩ | refine .inr ⟨[3], _, _, _, _, _, f010 (by assumption) (by assumption) (by assumption) (by assumption), by rfl, ⟨.refl, trivial⟩, ⟨.refl, .refl, trivial⟩, ?_⟩ | refine .inr ⟨[4], _, _, _, _, _, f010 (by assumption) (by assumption) (by assumption) (by assumption), by rfl, ⟨.refl, trivial⟩, ⟨.refl, .refl, trivial⟩, ?_⟩ | refine .inr ⟨[5], _, _, _, _, _, f010 (by assumption) (by assumption) (by assumption) (by assumption), by rfl, ⟨.refl, trivial⟩, ⟨.refl, .refl, trivial⟩, ?_⟩ | refine .inr ⟨[6], _, _, _, _, _, f010 (by assumption) (by assumption) (by assumption) (by assumption), by rfl, ⟨.refl, trivial⟩, ⟨.refl, .refl, trivial⟩, ?_⟩ | refine .inr ⟨[7], _, _, _, _, _, f010 (by assumption) (by assumption) (by assumption) (by assumption), by rfl, ⟨.refl, trivial⟩, ⟨.refl, .refl, trivial⟩, ?_⟩ | refine .inr ⟨[8], _, _, _, _, _, f010 (by assumption) (by assumption) (by assumption) (by assumption), by rfl, ⟨.refl, trivial⟩, ⟨.refl, .refl, trivial⟩, ?_⟩ | refine .inr ⟨[1], _, _, _, _, _, f011 (by assumption) (by assumption) (by assumption) (by assumption), by rfl, ⟨.refl, trivial⟩, ⟨.refl, .refl, trivial⟩, ?_⟩ | refine .inr ⟨[2], _, _, _, _, _, f011 (by assumption) (by assumption) (by assumption) (by assumption), by rfl, ⟨.refl, trivial⟩, ⟨.refl, .refl, trivial⟩, ?_⟩ | refine .inr ⟨[3], _, _, _, _, _, f011 (by assumption) (by assumption) (by assumption) (by assumption), by rfl, ⟨.refl, trivial⟩, ⟨.refl, .refl, trivial⟩, ?_⟩ | refine .inr ⟨[4], _, _, _, _, _, f011 (by assumption) (by assumption) (by assumption) (by assumption), by rfl, ⟨.refl, trivial⟩, ⟨.refl, .refl, trivial⟩, ?_⟩ | refine .inr ⟨[5], _, _, _, _, _, f011 (by assumption) (by assumption) (by assumption) (by assumption), by rfl, ⟨.refl, trivial⟩, ⟨.refl, .refl, trivial⟩, ?_⟩ | refine .inr ⟨[6], _, _, _, _, _, f011 (by assumption) (by assumption) (by assumption) (by assumption), by rfl, ⟨.refl, trivial⟩, ⟨.refl, .refl, trivial⟩, ?_⟩ | refine .inr ⟨[7], _, _, _, _, _, f011 (by assumption) (by assumption) (by assumption) (by assumption), by rfl, ⟨.refl, trivial⟩, ⟨.refl, .refl, trivial⟩, ?_⟩ | refine .inr ⟨[8], _, _, _, _, _, f011 (by assumption) (by assumption) (by assumption) (by assumption), by rfl, ⟨.refl, trivial⟩, ⟨.refl, .refl, trivial⟩, ?_⟩ | refine .inr ⟨[1], _, _, _, _, _, f020 (by assumption) (by assumption) (by assumption), by rfl, ⟨.refl, trivial⟩, ⟨.refl, .refl, trivial⟩, ?_⟩ | refine .inr ⟨[2], _, _, _, _, _, f020 (by assumption) (by assumption) (by assumption), by rfl, ⟨.refl, trivial⟩, ⟨.refl, .refl, trivial⟩, ?_⟩ | refine .inr ⟨[3], _, _, _, _, _, f020 (by assumption) (by assumption) (by assumption), by rfl, ⟨.refl, trivial⟩, ⟨.refl, .refl, trivial⟩, ?_⟩ | refine .inr ⟨[4], _, _, _, _, _, f020 (by assumption) (by assumption) (by assumption), by rfl, ⟨.refl, trivial⟩, ⟨.refl, .refl, trivial⟩, ?_⟩ | refine .inr ⟨[5], _, _, _, _, _, f020 (by assumption) (by assumption) (by assumption), by rfl, ⟨.refl, trivial⟩, ⟨.refl, .refl, trivial⟩, ?_⟩ | refine .inr ⟨[6], _, _, _, _, _, f020 (by assumption) (by assumption) (by assumption), by rfl, ⟨.refl, trivial⟩, ⟨.refl, .refl, trivial⟩, ?_⟩ | refine .inr ⟨[7], _, _, _, _, _, f020 (by assumption) (by assumption) (by assumption), by rfl, ⟨.refl, trivial⟩, ⟨.refl, .refl, trivial⟩, ?_⟩ | refine .inr ⟨[8], _, _, _, _, _, f020 (by assumption) (by assumption) (by assumption), by rfl, ⟨.refl, trivial⟩, ⟨.refl, .refl, trivial⟩, ?_⟩ | refine .inr ⟨[1], _, _, _, _, _, f100 (by assumption) (by assumption) (by assumption) (by assumption), by rfl, ⟨.refl, trivial⟩, ⟨.refl, .refl, trivial⟩, ?_⟩ | refine .inr ⟨[2], _, _, _, _, _, f100 (by assumption) (by assumption) (by assumption) (by assumption), by rfl, ⟨.refl, trivial⟩, ⟨.refl, .refl, trivial⟩, ?_⟩ | refine .inr ⟨[3], _, _, _, _, _, f100 (by assumption) (by assumption) (by assumption) (by assumption), by rfl, ⟨.refl, trivial⟩, ⟨.refl, .refl, trivial⟩, ?_⟩ | refine .inr ⟨[4], _, _, _, _, _, f100 (by assumption) (by assumption) (by assumption) (by assumption), by rfl, ⟨.refl, trivial⟩, ⟨.refl, .refl, trivial⟩, ?_⟩ | refine .inr ⟨[5], _, _, _, _, _, f100 (by assumption) (by assumption) (by assumption) (by assumption), by rfl, ⟨.refl, trivial⟩, ⟨.refl, .refl, trivial⟩, ?_⟩ | refine .inr ⟨[6], _, _, _, _, _, f100 (by assumption) (by assumption) (by assumption) (by assumption), by rfl, ⟨.refl, trivial⟩, ⟨.refl, .refl, trivial⟩, ?_⟩ | refine .inr ⟨[7], _, _, _, _, _, f100 (by assumption) (by assumption) (by assumption) (by assumption), by rfl, ⟨.refl, trivial⟩, ⟨.refl, .refl, trivial⟩, ?_⟩ | refine .inr ⟨[8], _, _, _, _, _, f100 (by assumption) (by assumption) (by assumption) (by assumption), by rfl, ⟨.refl, trivial⟩, ⟨.refl, .refl, trivial⟩, ?_⟩ | refine .inr ⟨[1], _, _, _, _, _, f101 (by assumption) (by assumption) (by assumption) (by assumption), by rfl, ⟨.refl, trivial⟩, ⟨.refl, .refl, trivial⟩, ?_⟩ | refine .inr ⟨[2], _, _, _, _, _, f101 (by assumption) (by assumption) (by assumption) (by assumption), by rfl, ⟨.refl, trivial⟩, ⟨.refl, .refl, trivial⟩, ?_⟩ | refine .inr ⟨[3], _, _, _, _, _, f101 (by assumption) (by assumption) (by assumption) (by assumption), by rfl, ⟨.refl, trivial⟩, ⟨.refl, .refl, trivial⟩, ?_⟩ | refine .inr ⟨[4], _, _, _, _, _, f101 (by assumption) (by assumption) (by assumption) (by assumption), by rfl, ⟨.refl, trivial⟩, ⟨.refl, .refl, trivial⟩, ?_⟩ | refine .inr ⟨[5], _, _, _, _, _, f101 (by assumption) (by assumption) (by assumption) (by assumption), by rfl, ⟨.refl, trivial⟩, ⟨.refl, .refl, trivial⟩, ?_⟩ | refine .inr ⟨[6], _, _, _, _, _, f101 (by assumption) (by assumption) (by assumption) (by assumption), by rfl, ⟨.refl, trivial⟩, ⟨.refl, .refl, trivial⟩, ?_⟩ | refine .inr ⟨[7], _, _, _, _, _, f101 (by assumption) (by assumption) (by assumption) (by assumption), by rfl, ⟨.refl, trivial⟩, ⟨.refl, .refl, trivial⟩, ?_⟩ | refine .inr ⟨[8], _, _, _, _, _, f101 (by assumption) (by assumption) (by assumption) (by assumption), by rfl, ⟨.refl, trivial⟩, ⟨.refl, .refl, trivial⟩, ?_⟩ | refine .inr ⟨[1], _, _, _, _, _, f110 (by assumption) (by assumption) (by assumption) (by assumption), by rfl, ⟨.refl, trivial⟩, ⟨.refl, .refl, trivial⟩, ?_⟩ | refine .inr ⟨[2], _, _, _, _, _, f110 (by assumption) (by assumption) (by assumption) (by assumption), by rfl, ⟨.refl, trivial⟩, ⟨.refl, .refl, trivial⟩, ?_⟩ | refine .inr ⟨[3], _, _, _, _, _, f110 (by assumption) (by assumption) (by assumption) (by assumption), by rfl, ⟨.refl, trivial⟩, ⟨.refl, .refl, trivial⟩, ?_⟩ | refine .inr ⟨[4], _, _, _, _, _, f110 (by assumption) (by assumption) (by assumption) (by assumption), by rfl, ⟨.refl, trivial⟩, ⟨.refl, .refl, trivial⟩, ?_⟩ | refine .inr ⟨[5], _, _, _, _, _, f110 (by assumption) (by assumption) (by assumption) (by assumption), by rfl, ⟨.refl, trivial⟩, ⟨.refl, .refl, trivial⟩, ?_⟩ | refine .inr ⟨[6], _, _, _, _, _, f110 (by assumption) (by assumption) (by assumption) (by assumption), by rfl, ⟨.refl, trivial⟩, ⟨.refl, .refl, trivial⟩, ?_⟩ | refine .inr ⟨[7], _, _, _, _, _, f110 (by assumption) (by assumption) (by assumption) (by assumption), by rfl, ⟨.refl, trivial⟩, ⟨.refl, .refl, trivial⟩, ?_⟩ | refine .inr ⟨[8], _, _, _, _, _, f110 (by assumption) (by assumption) (by assumption) (by assumption), by rfl, ⟨.refl, trivial⟩, ⟨.refl, .refl, trivial⟩, ?_⟩ | refine .inr ⟨[1], _, _, _, _, _, f111 (by assumption) (by assumption) (by assumption) (by assumption), by rfl, ⟨.refl, trivial⟩, ⟨.refl, .refl, trivial⟩, ?_⟩ | refine .inr ⟨[2], _, _, _, _, _, f111 (by assumption) (by assumption) (by assumption) (by assumption), by rfl, ⟨.refl, trivial⟩, ⟨.refl, .refl, trivial⟩, ?_⟩ | refine .inr ⟨[3], _, _, _, _, _, f111 (by assumption) (by assumption) (by assumption) (by assumption), by rfl, ⟨.refl, trivial⟩, ⟨.refl, .refl, trivial⟩, ?_⟩ | refine .inr ⟨[4], _, _, _, _, _, f111 (by assumption) (by assumption) (by assumption) (by assumption), by rfl, ⟨.refl, trivial⟩, ⟨.refl, .refl, trivial⟩, ?_⟩ | refine .inr ⟨[5], _, _, _, _, _, f111 (by assumption) (by assumption) (by assumption) (by assumption), by rfl, ⟨.refl, trivial⟩, ⟨.refl, .refl, trivial⟩, ?_⟩ | refine .inr ⟨[6], _, _, _, _, _, f111 (by assumption) (by assumption) (by assumption) (by assumption), by rfl, ⟨.refl, trivial⟩, ⟨.refl, .refl, trivial⟩, ?_⟩ | refine .inr ⟨[7], _, _, _, _, _, f111 (by assumption) (by assumption) (by assumption) (by assumption), by rfl, ⟨.refl, trivial⟩, ⟨.refl, .refl, trivial⟩, ?_⟩ | refine .inr ⟨[8], _, _, _, _, _, f111 (by assumption) (by assumption) (by assumption) (by assumption), by rfl, ⟨.refl, trivial⟩, ⟨.refl, .refl, trivial⟩, ?_⟩ | refine .inr ⟨[1], _, _, _, _, _, f120 (by assumption) (by assumption) (by assumption), by rfl, ⟨.refl, trivial⟩, ⟨.refl, .refl, trivial⟩, ?_⟩ | refine .inr ⟨[2], _, _, _, _, _, f120 (by assumption) (by assumption) (by assumption), by rfl, ⟨.refl, trivial⟩, ⟨.refl, .refl, trivial⟩, ?_⟩ | refine .inr ⟨[3], _, _, _, _, _, f120 (by assumption) (by assumption) (by assumption), by rfl, ⟨.refl, trivial⟩, ⟨.refl, .refl, trivial⟩, ?_⟩ | refine .inr ⟨[4], _, _, _, _, _, f120 (by assumption) (by assumption) (by assumption), by rfl, ⟨.refl, trivial⟩, ⟨.refl, .refl, trivial⟩, ?_⟩ | refine .inr ⟨[5], _, _, _, _, _, f120 (by assumption) (by assumption) (by assumption), by rfl, ⟨.refl, trivial⟩, ⟨.refl, .refl, trivial⟩, ?_⟩ | refine .inr ⟨[6], _, _, _, _, _, f120 (by assumption) (by assumption) (by assumption), by rfl, ⟨.refl, trivial⟩, ⟨.refl, .refl, trivial⟩, ?_⟩ | refine .inr ⟨[7], _, _, _, _, _, f120 (by assumption) (by assumption) (by assumption), by rfl, ⟨.refl, trivial⟩, ⟨.refl, .refl, trivial⟩, ?_⟩ | refine .inr ⟨[8], _, _, _, _, _, f120 (by assumption) (by assumption) (by assumption), by rfl, ⟨.refl, trivial⟩, ⟨.refl, .refl, trivial⟩, ?_⟩ | refine Exists.intro false ?_ | (refine And.intro ?_ ?_; focus (simp; done)) | fail)
  all_goals (conv => whnf)
  all_goals exact absurd (show decide (T.phase = 2) = true by assumption) (by rw [x12 (by assumption)]; decide)
end Go.Proofs.YtmbniilpgbjcfaaGreat

set_option maxRecDepth 100000
namespace Go.Proofs.YtmbniilpgbjcfaaGreat
open Go.Lift
set_option maxHeartbeats 8000000 in
theorem c_rT_inv (s : Agr) (hs : SmA s) (h1 : agrB s = false) : Ret Tryz.prog 11 [.agg (agrE s)] (.tup [.agg (agrE agr0), .lst 7 (([] : List Pkt).map pktE) false]) := by
  have e12 := c_ref10_Valid s hs
  rw [h1] at e12
  refine ret_of_body (fn := Tryz.f11) (c := Tryz.f11.body.getD .skip) hm hT (by kernel_rfl) Tryz.func11 (by kernel_rfl) (by kernel_rfl) (by kernel_rfl) (by kernel_rfl) ?_
  repeat' ((conv => whnf); first | refine And.intro (fun h => h) ?_ | refine dcond_t (by assumption) ?_ | refine dcond_f (by assumption) ?_ | (refine dcond_intro ?_ ?_ <;> intro h) | exact .refl | refine And.intro (by kernel_rfl) ?_ | refine And.intro ⟨fun h => h, fun h => h⟩ ?_ | refine .inl ⟨_, _, DleAll_refl _, e12, ?_⟩ | refine ⟨_, _, DleAll_refl _, fun _ => e12, ?_⟩ | refine ⟨_, _, DleAll_refl _, e12, ?_⟩ | refine Exists.intro false ?_ | (refine And.intro ?_ ?_; focus (simp; done)) | fail)
  all_goals (conv => whnf)
  all_goals exact dle_tupA ⟨agr0_le, .nl, trivial⟩
set_option maxHeartbeats 8000000 in
theorem c_rT_dec (s : Agr) (hs : SmA s) (h1 : agrB s = true) (h5 : decide (0 < (s.dec.length : Int)) = true) : Ret Tryz.prog 11 [.agg (agrE s)] (.tup [.agg (agrE s), .lst 7 ([pktOf s 0 6 0 0 s.dec].map pktE) false]) := by
  have e12 := c_ref10_Valid s hs
  have e3 := c_ref10_all s 6 0 s.dec
  rw [h1] at e12
  have h5' : decide (0 < ((s.dec.map intE).length : Int)) = true := by rw [List.length_map]; exact h5
  refine ret_of_body (fn := Tryz.f11) (c := Tryz.f11.body.getD .skip) hm hT (by kernel_rfl) Tryz.func11 (by kernel_rfl) (by kernel_rfl) (by kernel_rfl) (by kernel_rfl) ?_
  repeat' ((conv => whnf); first | refine And.intro (fun h => h) ?_ | refine dcond_t (by assumption) ?_ | refine dcond_f (by assumption) ?_ | (refine dcond_intro ?_ ?_ <;> intro h) | exact .refl | refine And.intro (by kernel_rfl) ?_ | refine And.intro ⟨fun h => h, fun h => h⟩ ?_ | refine .inl ⟨_, _, DleAll_refl _, e12, ?_⟩ | refine ⟨_, _, DleAll_refl _, fun _ => e12, ?_⟩ | refine ⟨_, _, DleAll_refl _, e12, ?_⟩ | refine .inl ⟨_, _, DleAll_refl _, e3, ?_⟩ | refine ⟨_, _, DleAll_refl _, fun _ => e3, ?_⟩ | refine ⟨_, _, DleAll_refl _, e3, ?_⟩ | refine Exists.intro false ?_ | (refine And.intro ?_ ?_; focus (simp; done)) | fail)
  all_goals (conv => whnf)
  all_goals exact dle_tupA ⟨.refl, .lst, trivial⟩
theorem c_ref10_Tick (s : Agr) (hs : SmA s) : Ret Tryz.prog 11 [.agg (agrE s)] (.tup [.agg (agrE (tickA s).1), .lst 7 ((tickA s).2.map pktE) false]) := by
  unfold tickA
  by_cases h1 : agrB s = false
  · rw [if_pos h1]
    exact c_rT_inv s hs h1
  rw [if_neg h1]
  have h1 : agrB s = true := by simpa using h1
  by_cases h5 : decide (0 < (s.dec.length : Int)) = true
  · rw [if_pos h5]
    exact c_rT_dec s hs h1 h5
  rw [if_neg h5]
  have h5' : s.dec = [] := len1f.1 (by simpa using h5)
  obtain ⟨hA, hf⟩ := (agr_iff s).1 h1
  cases h6 : decide (0 < (s.prop.length : Int))
  · exact c_rT_idle s hA hf h1 h5' h6
  · cases h7 : dueB s && !decide (attRank s = 0)
    · exact c_rT_wait s hA hf h1 h5' h6 h7
    · exact c_rT_act s hA hf h1 h5' h6 h7
end Go.Proofs.YtmbniilpgbjcfaaGreat

set_option maxRecDepth 100000
namespace Go.Proofs.YtmbniilpgbjcfaaGreat
open Go.Lift
theorem dat_bal {n : Nat} {r : List DV} (h : Dat tt (n + 3) 63 r) : ∃ a : Bal, r = balE a ∧ a.cut.length ≤ maxLen := by
  obtain ⟨p, q, rfl, ⟨np, rfl, _⟩, l, s, rfl, hl, rfl⟩ := h
  obtain ⟨l, rfl, hll⟩ := dat_ints (n := n) hl
  exact ⟨⟨np, l⟩, rfl, hll⟩
theorem dat_bals {n : Nat} {r : List DV} (h : Dat tt (n + 4) 27 r) : ∃ l : List Bal, r = [.lst 2 (l.map balE) false] ∧ l.length ≤ maxLen := by
  obtain ⟨es, rfl, hl, hes⟩ := h
  obtain ⟨d, rfl, hd⟩ := list_data (f := balE) (Q := fun x => x.cut.length ≤ maxLen) (fun r hr => by
    obtain ⟨a, rfl, hh⟩ := dat_bal (n := n) (hes r hr)
    exact ⟨a, rfl, hh⟩)
  exact ⟨d, rfl, by simpa using hl⟩
theorem dat_agr {n : Nat} {r : List DV} (h : Dat tt (n + 5) 30 r) : ∃ s : Agr, r = agrE s ∧ s.view.mem.length ≤ maxLen ∧ s.box.length ≤ maxLen ∧ s.reps.length ≤ maxLen ∧ s.accs.length ≤ maxLen := by
  obtain ⟨_, _, rfl, ⟨a1, rfl, _⟩, _, _, rfl, h2, _, _, rfl, h3, _, _, rfl, h4, _, _, rfl, h5, _, _, rfl, ⟨a6, rfl, _⟩, _, _, rfl, ⟨a7, rfl, _⟩, _, _, rfl, h8, _, _, rfl, h9, _, _, rfl, h10, _, _, rfl, h11, _, _, rfl, ⟨a12, rfl, _⟩, rfl⟩ := h
  obtain ⟨v, rfl, hv⟩ := dat_view (n := n + 1) h2
  obtain ⟨ac, rfl, _⟩ := dat_acc (n := n + 1) h3
  obtain ⟨pr, rfl, _⟩ := dat_ints (n := n + 2) h4
  obtain ⟨bx, rfl, hb⟩ := dat_bals (n := n) h5
  obtain ⟨re, rfl, hr, _⟩ := dat_rpts (n := n) h8
  obtain ⟨ch, rfl, _⟩ := dat_ints (n := n + 2) h9
  obtain ⟨ap, rfl, ha, _⟩ := dat_rpts (n := n) h10
  obtain ⟨de, rfl, _⟩ := dat_ints (n := n + 2) h11
  exact ⟨⟨a1, v, ac, pr, bx, a6, a7, re, ch, ap, de, a12⟩, rfl, hv, hb, hr, ha⟩
theorem dat_msg {n : Nat} {r : List DV} (h : Dat tt (n + 3) 32 r) : ∃ m : Msg, r = msgE m ∧ m.cut.length ≤ maxLen := by
  obtain ⟨_, _, rfl, ⟨a1, rfl, _⟩, _, _, rfl, ⟨a2, rfl, _⟩, _, _, rfl, ⟨a3, rfl, _⟩, _, _, rfl, ⟨a4, rfl, _⟩, _, _, rfl, ⟨a5, rfl, _⟩, _, _, rfl, h6, rfl⟩ := h
  obtain ⟨l, rfl, hl⟩ := dat_ints (n := n) h6
  exact ⟨⟨a1, a2, a3, a4, a5, l⟩, rfl, hl⟩
end Go.Proofs.YtmbniilpgbjcfaaGreat

set_option maxRecDepth 100000
namespace Go.Proofs.YtmbniilpgbjcfaaGreat
open Go.Lift
theorem vm_c2 {v : View} {m : Msg} (h : vmB v m = true) (hk : m.kind = 2) : m.cut.length ≤ 32 := by
  unfold vmB at h
  cases h1 : !viewB v || !inB v.mem m.src || !decide (m.view = v.num)
  · rw [h1, cond_false] at h
    simp [hk] at h
    rw [h.2]
    exact Nat.zero_le _
  · rw [h1] at h
    cases h
theorem vm_cut {v : View} {m : Msg} (h : vmB v m = true) : m.cut.length ≤ 32 := by
  obtain ⟨h1, h2, h3, h4, h5⟩ := vm_body h
  have key : appB v m.cut = true → m.cut.length ≤ 32 := fun h => good_len (good_iff.2 (.inr h))
  rcases vm_kind h with hk | hk | hk | hk | hk | hk
  · exact key (h1 (.inl hk))
  · exact vm_c2 h hk
  · rcases (h3 hk).2.2 with h0 | h0
    · rw [h0.2]
      exact Nat.zero_le _
    · exact key h0.2
  · exact key (h4 hk).2.2
  · exact key (h5 hk).2
  · exact key (h1 (.inr hk))
theorem end_ps (s : Agr) (ps : List Pkt) : (endA s ps).2.length ≤ ps.length + 1 := by
  unfold endA
  cases decide ((s.dec.length : Int) = 0) && decide (0 < ((decR s).length : Int)) <;> simp
theorem prop_ps (s : Agr) (cut : List Int) : (propA s cut).2.1.length ≤ 200 := by
  unfold propA
  have h1 := end_ps { s with prop := cut, wait := 0, acc := (voteR s.acc cut).1, box := (castR s.view s.box ⟨s.self, cut⟩).1 } [pktOf s 0 1 0 0 cut]
  have h2 := end_ps { s with prop := cut, wait := 0 } []
  simp only [List.length_cons, List.length_nil] at h1 h2
  cases !agrB s || !appB s.view cut
  · cases decide (0 < (s.prop.length : Int)) || decide (0 < (s.dec.length : Int))
    · cases (voteR s.acc cut).2
      · exact Nat.le_trans h2 (by decide)
      · exact Nat.le_trans h1 (by decide)
    · exact Nat.zero_le _
  · exact Nat.zero_le _
theorem act_ps (s : Agr) (m : Msg) : (actA s m).2.length ≤ 100 := by
  unfold actA
  split
  · exact Nat.zero_le _
  · split
    · exact prepA_ps s m
    · split
      · exact promA_ps s m
      · split
        · exact acctA_ps s m
        · split
          · exact Nat.zero_le _
          · simp
theorem rec_ps (s : Agr) (m : Msg) : (recA s m).2.1.length ≤ 200 := by
  unfold recA
  split
  · exact Nat.zero_le _
  · split
    · exact Nat.zero_le _
    · split
      · exact Nat.zero_le _
      · split
        · cases decide (m.kind = 6) <;> simp
        · have := end_ps (actA s m).1 (actA s m).2
          have := act_ps s m
          simp only []
          omega
theorem tick_ps (s : Agr) : (tickA s).2.length ≤ 200 := by
  unfold tickA
  split
  · exact Nat.zero_le _
  · split
    · simp
    · have := end_ps (stepA s) (rsdA (stepA s))
      have := rsd_ps (stepA s)
      omega
end Go.Proofs.YtmbniilpgbjcfaaGreat

set_option maxRecDepth 100000
namespace Go.Proofs.YtmbniilpgbjcfaaGreat
open Go.Lift
theorem c_ref10_SameMessage (m : Msg) (hc : m.cut.length ≤ 1000) : Ret Tryz.prog 55 [.agg (msgE m), .agg (msgE m)] (.v (.bool true)) := by
  have e := c_ref1_SameInts m.cut m.cut (mx hc)
  rw [sameI_refl] at e
  refine ret_of_body (fn := Tryz.f55) (c := Tryz.f55.body.getD .skip) hm hT (by kernel_rfl) Tryz.func55 (by kernel_rfl) (by kernel_rfl) (by kernel_rfl) (by kernel_rfl) ?_
  repeat' ((conv => whnf); first | refine And.intro (fun h => h) ?_ | refine dcond_t (by assumption) ?_ | refine dcond_f (by assumption) ?_ | (refine dcond_intro ?_ ?_ <;> intro h) | exact .refl | refine And.intro (by kernel_rfl) ?_ | refine And.intro ⟨fun h => h, fun h => h⟩ ?_ | refine .inl ⟨_, _, DleAll_refl _, e, ?_⟩ | refine ⟨_, _, DleAll_refl _, fun _ => e, ?_⟩ | refine ⟨_, _, DleAll_refl _, e, ?_⟩ | refine Exists.intro false ?_ | (refine And.intro ?_ ?_; focus (simp; done)) | fail)
  all_goals (conv => whnf)
  all_goals (refine dle_bool ?_)
  all_goals simp
theorem c_ref10_SamePackets (l : List Pkt) (hl : l.length ≤ 1000) (hc : ∀ p ∈ l, p.m.cut.length ≤ 1000) : Ret Tryz.prog 13 [.lst 7 (l.map pktE) false, .lst 7 (l.map pktE) false] (.v (.bool true)) := by
  have hl' : l.length ≤ 9223372036854775807 := by omega
  refine ret_of_body (fn := Tryz.f13) (c := Tryz.f13.body.getD .skip) hm hT (by kernel_rfl) Tryz.func13 (by kernel_rfl) (by kernel_rfl) (by kernel_rfl) (by kernel_rfl) ?_
  repeat' ((conv => whnf); first | refine And.intro (fun h => h) ?_ | refine dcond_t (by assumption) ?_ | refine dcond_f (by assumption) ?_ | (refine dcond_intro ?_ ?_ <;> intro h) | exact .refl | refine And.intro (by kernel_rfl) ?_ | refine And.intro ⟨fun h => h, fun h => h⟩ ?_ | refine Exists.intro false ?_ | (refine And.intro ?_ ?_; focus (simp; done)) | fail)
  · exfalso
    simp at h
  · refine ⟨Nat, fun i => ⟨[(0, .lst 7 (l.map pktE) false), (1, .lst 7 (l.map pktE) false), (5, i64 i)], []⟩, fun i => i ≤ l.length, fun i => l.length - i, [], ⟨0, Nat.zero_le _, ?_⟩, ?_⟩
    · exact ⟨by repeat' ((conv => whnf); first | exact trivial | refine And.intro (by (conv => arg 1; whnf); first | (with_reducible exact .refl) | exact dle_int (wrap_succ (by omega)) | exact .refl) ?_), by repeat' ((conv => whnf); first | exact trivial | refine And.intro ?_ ?_ | exact .refl), rfl⟩
    · intro i hi
      repeat' ((conv => whnf); first | refine And.intro (fun h => h) ?_ | refine dcond_t (by assumption) ?_ | refine dcond_f (by assumption) ?_ | (refine dcond_intro ?_ ?_ <;> intro h) | exact .refl | refine And.intro (by kernel_rfl) ?_ | refine And.intro ⟨fun h => h, fun h => h⟩ ?_ | refine Exists.intro false ?_ | (refine And.intro ?_ ?_; focus (simp; done)) | fail)
      · have hlt : i < l.length := by simpa using h
        clear h
        have e := c_ref10_SameMessage l[i].m (hc _ (List.getElem_mem hlt))
        have hg : (l.map pktE)[i]? = some (pktE l[i]) := get_map hlt
        obtain ⟨p, hpe⟩ : ∃ p, p = l[i] := ⟨_, rfl⟩
        rw [← hpe] at e hg
        repeat' ((conv => whnf); first | refine And.intro (fun h => h) ?_ | refine dcond_t (by assumption) ?_ | refine dcond_f (by assumption) ?_ | (refine dcond_intro ?_ ?_ <;> intro h) | exact .refl | refine And.intro (by kernel_rfl) ?_ | refine And.intro ⟨fun h => h, fun h => h⟩ ?_ | refine ⟨i, pktE p, And.intro ⟨rfl, hg⟩ ?_⟩ | refine .inl ⟨_, _, DleAll_refl _, e, ?_⟩ | refine ⟨_, _, DleAll_refl _, fun _ => e, ?_⟩ | refine ⟨_, _, DleAll_refl _, e, ?_⟩ | refine ⟨i, pktE p, And.intro ⟨⟨fun h => h, fun h => h⟩, fun hx => ⟨rfl, hg⟩⟩ ?_⟩ | refine Exists.intro false ?_ | (refine And.intro ?_ ?_; focus (simp; done)) | fail)
        all_goals (conv => whnf)
        · exfalso
          simp at h
        · refine ⟨i + 1, hlt, by simp only []; omega, ?_⟩
          exact ⟨by repeat' ((conv => whnf); first | exact trivial | refine And.intro (by (conv => arg 1; whnf); first | (with_reducible exact .refl) | exact dle_int (wrap_succ (by omega)) | exact .refl) ?_), by repeat' ((conv => whnf); first | exact trivial | refine And.intro ?_ ?_ | exact .refl), rfl⟩
end Go.Proofs.YtmbniilpgbjcfaaGreat

set_option maxRecDepth 100000
namespace Go.Proofs.YtmbniilpgbjcfaaGreat
open Go.Lift
theorem prop_val {s : Agr} {cut : List Int} (h : (propA s cut).2.2 = 0) : agrB s = true := by
  cases hb : agrB s
  · unfold propA at h
    simp [hb] at h
  · rfl
theorem rec_val {s : Agr} {m : Msg} (h : (recA s m).2.2 = 0) : agrB s = true := by
  cases hb : agrB s
  · unfold recA at h
    simp [hb] at h
  · rfl
theorem pk_len {s : Agr} {p : Pkt} (h : PkOk s p) : p.m.cut.length ≤ 1000 := by
  have := vm_cut h.vm
  omega
theorem prop_fine (s : Agr) (cut : List Int) : SmA (propA s cut).1 ∧ ∀ p ∈ (propA s cut).2.1, p.m.cut.length ≤ 1000 := by
  by_cases h : (propA s cut).2.2 = 0
  · obtain ⟨hA, hF⟩ := (agr_iff s).1 (prop_val h)
    have n := nice_prop hA hF h
    exact ⟨sm_aw n.1, fun p hp => pk_len (n.2.2.2.2 p hp)⟩
  · obtain ⟨e1, e2⟩ := prop_err h
    rw [e1, e2]
    exact ⟨sm_agr0, fun p hp => by cases hp⟩
theorem rec_fine (s : Agr) (m : Msg) : SmA (recA s m).1 ∧ ∀ p ∈ (recA s m).2.1, p.m.cut.length ≤ 1000 := by
  by_cases h : (recA s m).2.2 = 0
  · obtain ⟨hA, hF⟩ := (agr_iff s).1 (rec_val h)
    have n := nice_rec hA hF h
    exact ⟨sm_aw n.1, fun p hp => pk_len (n.2.2.2.2 p hp)⟩
  · obtain ⟨e1, e2⟩ := rec_err h
    rw [e1, e2]
    exact ⟨sm_agr0, fun p hp => by cases hp⟩
theorem tick_fine (s : Agr) : SmA (tickA s).1 ∧ ∀ p ∈ (tickA s).2, p.m.cut.length ≤ 1000 := by
  cases hb : agrB s
  · unfold tickA
    rw [if_pos hb]
    exact ⟨sm_agr0, fun p hp => by cases hp⟩
  · obtain ⟨hA, hF⟩ := (agr_iff s).1 hb
    have n := nice_tick hA hF
    exact ⟨sm_aw n.1, fun p hp => pk_len (n.2.2.2.2 p hp)⟩
set_option maxHeartbeats 8000000 in
theorem r_AgreeSteps (s : Agr) (k1 : s.view.mem.length ≤ maxLen) (k2 : s.box.length ≤ maxLen) (k3 : s.reps.length ≤ maxLen) (k4 : s.accs.length ≤ maxLen) (cut : List Int) (m : Msg) :
    Ret Tryz.prog 3 [.agg (agrE s), .lst 1 (cut.map intE) false, .agg (msgE m)] (.v (.bool true)) := by
  have e8 := c_law10_Small s k1 k2 k3 k4
  have hsm := @sm_all s
  generalize smA10 s = S at *
  refine ret_of_body (fn := Tryz.f3) (c := Tryz.f3.body.getD .skip) hm hT (by kernel_rfl) Tryz.func3 (by kernel_rfl) (by kernel_rfl) (by kernel_rfl) (by kernel_rfl) ?_
  repeat' ((conv => whnf); first | refine And.intro (fun h => h) ?_ | refine dcond_t (by assumption) ?_ | refine dcond_f (by assumption) ?_ | (refine dcond_intro ?_ ?_ <;> intro h) | exact .refl | refine And.intro (by kernel_rfl) ?_ | refine And.intro ⟨fun h => h, fun h => h⟩ ?_ | refine .inl ⟨_, _, DleAll_refl _, c_law10_awake, ?_⟩ | refine ⟨_, _, DleAll_refl _, fun _ => c_law10_awake, ?_⟩ | refine ⟨_, _, DleAll_refl _, c_law10_awake, ?_⟩ | refine .inl ⟨_, _, DleAll_refl _, e8, ?_⟩ | refine ⟨_, _, DleAll_refl _, fun _ => e8, ?_⟩ | refine ⟨_, _, DleAll_refl _, e8, ?_⟩ | refine Exists.intro false ?_ | (refine And.intro ?_ ?_; focus (simp; done)) | fail)
  all_goals (conv => whnf)
  simp only [List.length_map, Bool.or_eq_false_iff, Bool.not_eq_false', decide_eq_false_iff_not] at h
  obtain ⟨⟨hS, hcl⟩, hml⟩ := h
  have hs := hsm hS
  clear e8 hsm
  have eP := c_agreement_Propose s hs cut (by omega)
  have eR := c_agreement_Receive s hs m (by omega)
  have eT := c_agreement_Tick s hs
  have fP := c_ref10_Propose s hs cut (by omega)
  have fR := c_ref10_Receive s hs m (by omega)
  have fT := c_ref10_Tick s hs
  have lP := prop_ps s cut
  have lR := rec_ps s m
  have lT := tick_ps s
  have xP := prop_fine s cut
  have xR := rec_fine s m
  have xT := tick_fine s
  generalize propA s cut = X at *
  generalize recA s m = Y at *
  generalize tickA s = Z at *
  have e1 := c_ref10_Same X.1 xP.1
  have e2 := c_ref10_Same Y.1 xR.1
  have e3 := c_ref10_Same Z.1 xT.1
  have g1 := c_ref10_SamePackets X.2.1 (by omega) xP.2
  have g2 := c_ref10_SamePackets Y.2.1 (by omega) xR.2
  have g3 := c_ref10_SamePackets Z.2 (by omega) xT.2
  clear lP lR lT xP xR xT
  repeat' ((conv => whnf); first | refine And.intro (fun h => h) ?_ | refine dcond_t (by assumption) ?_ | refine dcond_f (by assumption) ?_ | (refine dcond_intro ?_ ?_ <;> intro h) | exact .refl | refine And.intro (by kernel_rfl) ?_ | refine And.intro ⟨fun h => h, fun h => h⟩ ?_ | refine .inl ⟨_, _, DleAll_refl _, eP, ?_⟩ | refine ⟨_, _, DleAll_refl _, fun _ => eP, ?_⟩ | refine ⟨_, _, DleAll_refl _, eP, ?_⟩ | refine .inl ⟨_, _, DleAll_refl _, eR, ?_⟩ | refine ⟨_, _, DleAll_refl _, fun _ => eR, ?_⟩ | refine ⟨_, _, DleAll_refl _, eR, ?_⟩ | refine .inl ⟨_, _, DleAll_refl _, eT, ?_⟩ | refine ⟨_, _, DleAll_refl _, fun _ => eT, ?_⟩ | refine ⟨_, _, DleAll_refl _, eT, ?_⟩ | refine .inl ⟨_, _, DleAll_refl _, fP, ?_⟩ | refine ⟨_, _, DleAll_refl _, fun _ => fP, ?_⟩ | refine ⟨_, _, DleAll_refl _, fP, ?_⟩ | refine .inl ⟨_, _, DleAll_refl _, fR, ?_⟩ | refine ⟨_, _, DleAll_refl _, fun _ => fR, ?_⟩ | refine ⟨_, _, DleAll_refl _, fR, ?_⟩ | refine .inl ⟨_, _, DleAll_refl _, fT, ?_⟩ | refine ⟨_, _, DleAll_refl _, fun _ => fT, ?_⟩ | refine ⟨_, _, DleAll_refl _, fT, ?_⟩ | refine .inl ⟨_, _, DleAll_refl _, e1, ?_⟩ | refine ⟨_, _, DleAll_refl _, fun _ => e1, ?_⟩ | refine ⟨_, _, DleAll_refl _, e1, ?_⟩ | refine .inl ⟨_, _, DleAll_refl _, e2, ?_⟩ | refine ⟨_, _, DleAll_refl _, fun _ => e2, ?_⟩ | refine ⟨_, _, DleAll_refl _, e2, ?_⟩ | refine .inl ⟨_, _, DleAll_refl _, e3, ?_⟩ | refine ⟨_, _, DleAll_refl _, fun _ => e3, ?_⟩ | refine ⟨_, _, DleAll_refl _, e3, ?_⟩ | refine .inl ⟨_, _, DleAll_refl _, g1, ?_⟩ | refine ⟨_, _, DleAll_refl _, fun _ => g1, ?_⟩ | refine ⟨_, _, DleAll_refl _, g1, ?_⟩ | refine .inl ⟨_, _, DleAll_refl _, g2, ?_⟩ | refine ⟨_, _, DleAll_refl _, fun _ => g2, ?_⟩ | refine ⟨_, _, DleAll_refl _, g2, ?_⟩ | refine .inl ⟨_, _, DleAll_refl _, g3, ?_⟩ | refine ⟨_, _, DleAll_refl _, fun _ => g3, ?_⟩ | refine ⟨_, _, DleAll_refl _, g3, ?_⟩ | refine Exists.intro false ?_ | (refine And.intro ?_ ?_; focus (simp; done)) | fail)
  all_goals (conv => whnf)
  all_goals (refine dle_bool ?_)
  all_goals simp
theorem law_AgreeSteps (dvs : List DV) (h : DatAll tt 6 [30, 22, 32] dvs) : Ret Tryz.prog 3 dvs (.v (.bool true)) := by
  obtain ⟨a1, _, rfl, h1, a2, _, rfl, h2, a4, _, rfl, h4, rfl⟩ := h
  obtain ⟨s, rfl, k1, k2, k3, k4⟩ := dat_agr (n := 1) h1
  obtain ⟨l, rfl, hl⟩ := dat_ints (n := 4) h2
  obtain ⟨m, rfl, hm⟩ := dat_msg (n := 3) h4
  exact r_AgreeSteps s k1 k2 k3 k4 l m
end Go.Proofs.YtmbniilpgbjcfaaGreat
