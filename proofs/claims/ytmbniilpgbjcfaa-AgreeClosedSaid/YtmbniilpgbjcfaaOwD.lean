/- The laws of this seat, part OwD: contracts of the functions, plain laws. No conditions. -/
import Derived.Test.YtmbniilpgbjcfaaOwC
import Derived.Test.YtmbniilpgbjcfaaOwB
set_option linter.unusedSimpArgs false
set_option linter.unusedVariables false
set_option maxRecDepth 100000
namespace Go.Proofs.Ytmbniilpgbjcfaa
open Go.Lift
/-! the agreement, plainly: what each step leaves -/
theorem acc_in {v : View} {x : Int} (hv : viewB v = true) (h : inB v.mem x = true) : 1 ≤ x ∧ x ≤ 1000 := view_hi hv h
theorem reps_nil {v : View} (hv : viewB v = true) : repsB v [] = true := (reps_iff hv).2 ⟨by simp, .nil⟩
theorem vr_mk {v : View} {m r : Int} {c : List Int} (h1 : inB v.mem m = true) (h2 : usableB r = true) (h3 : appB v c = true) : vrB v ⟨m, r, c⟩ = true := by
  simp only [vrB, appB, Bool.and_eq_true, Bool.or_eq_true, decide_eq_true_eq] at *
  exact ⟨h1, .inr ⟨.inr h2, h3⟩⟩
theorem vr_in {v : View} {r : Rpt} (h : vrB v r = true) : inB v.mem r.mem = true := by
  simp only [vrB, Bool.and_eq_true] at h
  exact h.1
theorem vr_cut {v : View} {r : Rpt} (h : vrB v r = true) : (r.rank = -1 ∧ r.cut = []) ∨ (r.rank = 0 ∨ usableB r.rank = true) ∧ appB v r.cut = true := by
  simp only [vrB, appB, Bool.and_eq_true, Bool.or_eq_true, decide_eq_true_eq] at *
  rcases h.2 with h | h
  · exact .inl ⟨h.1, List.length_eq_zero_iff.1 (by omega)⟩
  · exact .inr h
theorem ofb_iff {l : List Rpt} {x : Int} : 0 ≤ ofB l x ↔ ∃ r ∈ l, r.mem = x := by
  constructor
  · intro h
    exact of_pos (decide_eq_true h)
  · rintro ⟨r, hr, he⟩
    cases h : decide (0 ≤ ofB l x)
    · exact absurd he (of_neg h r hr)
    · exact of_decide_eq_true h
theorem ins_sub {l : List Rpt} {r x : Rpt} (hx : x ∈ l) : x ∈ insR l r := by
  unfold insR
  rw [← List.take_append_drop (frontN l r.mem) l, List.mem_append] at hx
  simp only [List.mem_append, List.mem_singleton]
  rcases hx with hx | hx
  · exact .inl (.inl hx)
  · exact .inr hx
theorem add_sub {v : View} {l : List Rpt} {r x : Rpt} (h : repsB v l = true) (hx : x ∈ l) : x ∈ (addR v l r).1 := by
  unfold addR
  cases h2 : repsB v (insR l r)
  · simp [h, hx]
  · simp [h]
    exact ins_sub hx
theorem aw_idle {s : Agr} (h : AW s) : AW (idleA s) :=
  ⟨h.v, h.self, h.w0, h.w1, h.acc, h.pro, h.rk, h.acut, h.prop, good_iff.2 (.inl rfl), h.dec, h.box, h.own, reps_nil h.v, (fun r hr => by cases hr), h.accs, h.apr, h.rank, .inl ⟨rfl, rfl, rfl⟩⟩
theorem few_idle (s : Agr) : few (idleA s) := fun e => by
  have : (0 : Int) = 1 := e
  omega
theorem aw_accs {s : Agr} (h : AW s) {r : Rpt} (hr : vrB s.view r = true) (hp : properB s.view r.rank = true) : AW { s with accs := enterR s.view s.accs r } :=
  ⟨h.v, h.self, h.w0, h.w1, h.acc, h.pro, h.rk, h.acut, h.prop, h.cho, h.dec, h.box, h.own, h.reps, h.rpr, enter_reps h.v h.accs hr, (fun x hx => by
    rcases enter_mem hx with rfl | hx
    · have := use_pos (proper_use hp).1
      exact ⟨by omega, hp⟩
    · exact h.apr x hx), h.rank, h.ph⟩
theorem acc_mk {r : Int} {c : List Int} (h1 : usableB r = true) (h2 : idsB c 32 = true) : accB ⟨r, r, c⟩ = true := by
  have h0 := use_pos h1
  have h3 : ownerOf r ≠ 0 := by simpa [usableB] using h1
  exact (accB_iff _).2 ⟨.inr h3, Int.le_refl _, .inr ⟨.inr h3, by simp only []; omega, h2⟩⟩
/-- an acceptance -/
theorem aw_acc {s : Agr} (h : AW s) {r : Int} {c : List Int} (hp : properB s.view r = true) (hc : appB s.view c = true) : AW { s with acc := ⟨r, r, c⟩ } :=
  ⟨h.v, h.self, h.w0, h.w1, acc_mk (proper_use hp).1 (app_ids (of_decide_eq_true hc)), fun _ => hp, fun _ => hp, good_iff.2 (.inr hc), h.prop, h.cho, h.dec, h.box, h.own, h.reps, h.rpr, h.accs, h.apr, h.rank, h.ph⟩
theorem acc_prep {a : Acc} (h : accB a = true) {r : Int} (h1 : usableB r = true) (h2 : a.pro ≤ r) : accB ⟨r, a.rank, a.cut⟩ = true := by
  obtain ⟨_, h4, h5⟩ := (accB_iff a).1 h
  exact (accB_iff _).2 ⟨.inr (by simpa [usableB] using h1), by simp only []; omega, h5⟩
theorem aw_prep {s : Agr} (h : AW s) {r : Int} (hp : properB s.view r = true) (hle : s.acc.pro ≤ r) : AW { s with acc := ⟨r, s.acc.rank, s.acc.cut⟩ } :=
  ⟨h.v, h.self, h.w0, h.w1, acc_prep h.acc (proper_use hp).1 hle, fun _ => hp, h.rk, h.acut, h.prop, h.cho, h.dec, h.box, h.own, h.reps, h.rpr, h.accs, h.apr, h.rank, h.ph⟩
/-- the majority rule, in its three cases -/
theorem adv_cases {s : Agr} (h : AW s) : (few s ∧ advA s = s) ∨
    (s.phase = 1 ∧ gateB s.view s.reps s.prop = false ∧ s.prop ≠ [] ∧ appB s.view (chooseR s.view s.reps s.prop).1 = true ∧ (chooseR s.view s.reps s.prop).2 = true ∧
      (((acceptR s.acc s.rank (chooseR s.view s.reps s.prop).1).2 = true ∧ advA s = { s with cho := (chooseR s.view s.reps s.prop).1, phase := 2, acc := ⟨s.rank, s.rank, (chooseR s.view s.reps s.prop).1⟩, accs := enterR s.view s.accs ⟨s.self, s.rank, (chooseR s.view s.reps s.prop).1⟩ }) ∨
      ((acceptR s.acc s.rank (chooseR s.view s.reps s.prop).1).2 = false ∧ advA s = idleA s))) := by
  unfold advA
  cases hb : !decide (s.phase = 1) || decide ((s.reps.length : Int) < majB s.view.mem.length)
  · simp only [Bool.or_eq_false_iff, Bool.not_eq_false', decide_eq_true_eq, decide_eq_false_iff_not] at hb
    right
    have hpr : s.prop ≠ [] := by
      rcases h.ph with h0 | h0
      · omega
      · exact h0.2.2.1
    have hap := good_app h.prop hpr
    have hg : gateB s.view s.reps s.prop = false := by
      unfold gateB
      rw [h.reps, decide_eq_false hb.2, of_decide_eq_true hap]
      simp
    obtain ⟨c2, c1⟩ := choose_from hg hpr
    refine ⟨hb.1, hg, hpr, ?_, c2, ?_⟩
    · rcases c1 with c1 | ⟨r, hr, h0, c1⟩
      · rw [c1]; exact hap
      · rw [c1]
        rcases vr_cut (((reps_iff h.v).1 h.reps).1 r hr) with h2 | h2
        · omega
        · exact h2.2
    · cases ha : (acceptR s.acc s.rank (chooseR s.view s.reps s.prop).1).2
      · exact .inr ⟨rfl, rfl⟩
      · left
        have := (accept_ok h.acc ha).2.2.2.1
        rw [this]
        exact ⟨rfl, rfl⟩
  · left
    simp only [Bool.or_eq_true, Bool.not_eq_true', decide_eq_false_iff_not, decide_eq_true_eq] at hb
    refine ⟨fun e => ?_, rfl⟩
    rcases hb with hb | hb
    · exact absurd e hb
    · exact hb
theorem ok_adv {s : Agr} (h : AW s) : AW (advA s) ∧ few (advA s) ∧ (advA s).view = s.view ∧ (advA s).self = s.self ∧ (advA s).dec = s.dec ∧ (advA s).rank = s.rank := by
  rcases adv_cases h with ⟨hf, e⟩ | ⟨h1, hg, hpr, hap, _, ⟨ha, e⟩ | ⟨ha, e⟩⟩
  · rw [e]
    exact ⟨h, hf, rfl, rfl, rfl, rfl⟩
  · rw [e]
    have hph := h.ph
    rw [h1] at hph
    have hr0 : s.rank ≠ 0 := by
      rcases hph with h0 | h0
      · omega
      · exact h0.2.1
    have hof : 0 ≤ ofB s.reps s.self := by
      rcases hph with h0 | h0
      · omega
      · exact h0.2.2.2
    obtain ⟨hp, ho⟩ := h.rank hr0
    have h2 := aw_accs (r := ⟨s.self, s.rank, (chooseR s.view s.reps s.prop).1⟩) h (vr_mk h.self (proper_use hp).1 hap) hp
    have h3 := aw_acc h2 hp hap
    exact ⟨⟨h3.v, h3.self, h3.w0, h3.w1, h3.acc, h3.pro, h3.rk, h3.acut, h3.prop, good_iff.2 (.inr hap), h3.dec, h3.box, h3.own, h3.reps, h3.rpr, h3.accs, h3.apr, h3.rank, .inr ⟨.inr ⟨rfl, app_ne hap⟩, hr0, hpr, hof⟩⟩, (fun e => by
      have : (2 : Int) = 1 := e
      omega), rfl, rfl, rfl, rfl⟩
  · rw [e]
    exact ⟨aw_idle h, few_idle s, rfl, rfl, rfl, rfl⟩
/-- a packet that may be sent -/
structure PkOk (s : Agr) (p : Pkt) : Prop where
  vm : vmB s.view p.m = true
  src : p.m.src = s.self
  ne : p.to ≠ s.self
  to : p.to = 0 ∨ inB s.view.mem p.to = true
theorem vm_mk {v : View} {k self rank last : Int} {c : List Int} (hv : viewB v = true) (hs : inB v.mem self = true)
    (h : (bif decide (k = 1) || decide (k = 6) then decide (rank = 0) && decide (last = 0) && appB v c
  else bif decide (k = 2) then properB v rank && decide (ownerOf rank = self) && decide (last = 0) && decide ((c.length : Int) = 0)
  else bif decide (k = 3) then properB v rank && !decide (rank < last) && (decide (last = -1) && decide ((c.length : Int) = 0) || (decide (last = 0) || properB v last) && appB v c)
  else bif decide (k = 4) then properB v rank && decide (ownerOf rank = self) && decide (last = 0) && appB v c
  else bif decide (k = 5) then properB v rank && decide (last = 0) && appB v c
  else false) = true) : vmB v ⟨k, v.num, self, rank, last, c⟩ = true := by
  unfold vmB
  rw [hv, hs]
  simp only [decide_true, Bool.not_true, Bool.or_self, cond_false]
  exact h
theorem pk_all {s : Agr} (h : AW s) {k rank last : Int} {c : List Int} (hm : vmB s.view ⟨k, s.view.num, s.self, rank, last, c⟩ = true) : PkOk s (pktOf s 0 k rank last c) :=
  ⟨hm, rfl, (by have := acc_in h.v h.self; show (0 : Int) ≠ s.self; omega), .inl rfl⟩
theorem pk_dec {s : Agr} (h : AW s) {c : List Int} (hc : appB s.view c = true) : PkOk s (pktOf s 0 6 0 0 c) :=
  pk_all h (vm_mk h.v h.self (by simp [hc]))
theorem pk_vote {s : Agr} (h : AW s) {c : List Int} (hc : appB s.view c = true) : PkOk s (pktOf s 0 1 0 0 c) :=
  pk_all h (vm_mk h.v h.self (by simp [hc]))
theorem pk_prepare {s : Agr} (h : AW s) (hr : s.rank ≠ 0) : PkOk s (pktOf s 0 2 s.rank 0 []) := by
  obtain ⟨hp, ho⟩ := h.rank hr
  exact pk_all h (vm_mk h.v h.self (by simp [hp, ho]))
theorem pk_accept {s : Agr} (h : AW s) (hr : s.rank ≠ 0) {c : List Int} (hc : appB s.view c = true) : PkOk s (pktOf s 0 4 s.rank 0 c) := by
  obtain ⟨hp, ho⟩ := h.rank hr
  exact pk_all h (vm_mk h.v h.self (by simp [hp, ho, hc]))
theorem pk_accepted {s : Agr} (h : AW s) {r : Int} (hp : properB s.view r = true) {c : List Int} (hc : appB s.view c = true) : PkOk s (pktOf s 0 5 r 0 c) :=
  pk_all h (vm_mk h.v h.self (by simp [hp, hc]))
/-- the end of a call -/
theorem win_mem {v : View} {l : List Bal} (h : (winR v l).2 = true) : ∃ b ∈ l, b.cut = (winR v l).1 := by
  unfold winR at h ⊢
  cases hb : !boxB v l
  · rw [hb, cond_false] at h
    rw [cond_false]
    cases hf : l.find? (fun b => decide (fastB v.mem.length ≤ (votesN l b.cut : Int))) with
    | none => rw [hf] at h; cases h
    | some b => exact ⟨b, List.mem_of_find?_eq_some hf, rfl⟩
  · rw [hb] at h
    cases h
theorem acc_mem {l : List Rpt} {m : Int} : ∀ i, i ≤ l.length → (accAt l m i).2 = [] ∨ ∃ r ∈ l, r.rank = (accAt l m i).1 ∧ r.cut = (accAt l m i).2 ∧ m ≤ (vA l r l.length : Int)
  | 0, _ => .inl rfl
  | i + 1, hi => by
    unfold accAt
    cases hb : decide (m ≤ (vA l (l.getD i rpt0) l.length : Int)) && decide ((accAt l m i).1 < (l.getD i rpt0).rank)
    · exact acc_mem i (by omega)
    · have hg : l.getD i rpt0 = l[i] := by simp [show i < l.length by omega]
      rw [hg] at hb ⊢
      simp only [Bool.and_eq_true, decide_eq_true_eq] at hb
      exact .inr ⟨l[i], List.getElem_mem (by omega), rfl, rfl, hb.1⟩
theorem dec_app {s : Agr} (h : AW s) (hn : decR s ≠ []) : appB s.view (decR s) = true := by
  unfold decR at hn ⊢
  cases hw : (winR s.view s.box).2
  · rw [hw, cond_false] at hn
    rw [cond_false]
    unfold accdR at hn ⊢
    rcases acc_mem (l := s.accs) (m := majB s.view.mem.length) s.accs.length (Nat.le_refl _) with h1 | ⟨r, hr, h2, h3, _⟩
    · exact absurd h1 hn
    · rw [← h3]
      have hap := h.apr r hr
      rcases vr_cut (((reps_iff h.v).1 h.accs).1 r hr) with h4 | h4
      · omega
      · exact h4.2
  · rw [cond_true]
    obtain ⟨b, hb, he⟩ := win_mem hw
    rw [← he]
    exact (((box_iff h.v).1 h.box).1 b hb).2
theorem ok_end {s : Agr} (h : AW s) (hf : few s) {ps : List Pkt} (hp : ∀ p ∈ ps, PkOk s p) : AW (endA s ps).1 ∧ few (endA s ps).1 ∧ (endA s ps).1.view = s.view ∧ (endA s ps).1.self = s.self ∧ ∀ p ∈ (endA s ps).2, PkOk s p := by
  unfold endA
  cases hb : decide ((s.dec.length : Int) = 0) && decide (0 < ((decR s).length : Int))
  · exact ⟨h, hf, rfl, rfl, hp⟩
  · rw [Bool.and_eq_true] at hb
    have ha := dec_app h (len1.1 hb.2)
    refine ⟨⟨h.v, h.self, h.w0, h.w1, h.acc, h.pro, h.rk, h.acut, h.prop, h.cho, good_iff.2 (.inr ha), h.box, h.own, h.reps, h.rpr, h.accs, h.apr, h.rank, h.ph⟩, hf, rfl, rfl, fun p hp2 => ?_⟩
    simp only [cond_true, List.mem_append, List.mem_singleton] at hp2
    rcases hp2 with hp2 | rfl
    · exact hp p hp2
    · exact pk_dec h ha
end Go.Proofs.Ytmbniilpgbjcfaa

set_option linter.unusedSimpArgs false
set_option linter.unusedVariables false
set_option maxRecDepth 100000
namespace Go.Proofs.Ytmbniilpgbjcfaa
open Go.Lift
/-! the agreement, plainly: messages, proposals and ticks keep states valid -/
def Nice (s : Agr) (x : Agr × List Pkt) : Prop := AW x.1 ∧ few x.1 ∧ x.1.view = s.view ∧ x.1.self = s.self ∧ ∀ p ∈ x.2, PkOk s p
theorem nice_end {s : Agr} {x : Agr × List Pkt} (h : Nice s x) : Nice s (endA x.1 x.2) := by
  obtain ⟨h1, h2, h3, h4, h5⟩ := h
  have h5' : ∀ p ∈ x.2, PkOk x.1 p := fun p hp => by
    have := h5 p hp
    exact ⟨by rw [h3]; exact this.vm, by rw [h4]; exact this.src, by rw [h4]; exact this.ne, by rw [h3]; exact this.to⟩
  obtain ⟨e1, e2, e3, e4, e5⟩ := ok_end h1 h2 h5'
  refine ⟨e1, e2, e3.trans h3, e4.trans h4, fun p hp => ?_⟩
  have := e5 p hp
  exact ⟨by rw [← h3]; exact this.vm, by rw [← h4]; exact this.src, by rw [← h4]; exact this.ne, by rw [← h3]; exact this.to⟩
theorem vm_view {v : View} {m : Msg} (h : vmB v m = true) : inB v.mem m.src = true ∧ m.view = v.num := by
  unfold vmB at h
  cases h1 : !viewB v || !inB v.mem m.src || !decide (m.view = v.num)
  · simp only [Bool.or_eq_false_iff, Bool.not_eq_false', decide_eq_true_eq] at h1
    exact ⟨h1.1.2, h1.2⟩
  · rw [h1] at h
    cases h
theorem vm_body {v : View} {m : Msg} (h : vmB v m = true) : (m.kind = 1 ∨ m.kind = 6 → appB v m.cut = true) ∧ (m.kind = 2 → properB v m.rank = true ∧ ownerOf m.rank = m.src) ∧
    (m.kind = 3 → properB v m.rank = true ∧ m.last ≤ m.rank ∧ (m.last = -1 ∧ m.cut = [] ∨ (m.last = 0 ∨ properB v m.last = true) ∧ appB v m.cut = true)) ∧
    (m.kind = 4 → properB v m.rank = true ∧ ownerOf m.rank = m.src ∧ appB v m.cut = true) ∧ (m.kind = 5 → properB v m.rank = true ∧ appB v m.cut = true) := by
  unfold vmB at h
  cases h1 : !viewB v || !inB v.mem m.src || !decide (m.view = v.num)
  · rw [h1, cond_false] at h
    refine ⟨fun hk => ?_, fun hk => ?_, fun hk => ?_, fun hk => ?_, fun hk => ?_⟩
    · rcases hk with hk | hk <;> simp [hk] at h <;> exact h.2
    · simp [hk] at h
      exact ⟨h.1.1.1, h.1.1.2⟩
    · simp [hk] at h
      refine ⟨h.1.1, h.1.2, ?_⟩
      rcases h.2 with h2 | h2
      · exact .inl h2
      · exact .inr h2
    · simp [hk] at h
      exact ⟨h.1.1.1, h.1.1.2, h.2⟩
    · simp [hk] at h
      exact ⟨h.1.1, h.2⟩
  · rw [h1] at h
    cases h
theorem acc_cut {s : Agr} (h : AW s) : (s.acc.rank = -1 ∧ s.acc.cut = []) ∨ (s.acc.rank = 0 ∨ properB s.view s.acc.rank = true) ∧ appB s.view s.acc.cut = true := by
  rcases ((accB_iff s.acc).1 h.acc).2.2 with h1 | ⟨h1, _, h3⟩
  · exact .inl h1
  · right
    refine ⟨?_, good_app h.acut (ids_ne h3).1⟩
    rcases h1 with h1 | h1
    · exact .inl h1
    · have := owner_low h1
      exact .inr (h.rk (by omega))
theorem nice_prep {s : Agr} (h : AW s) (hf : few s) {m : Msg} (hm : vmB s.view m = true) (hk : m.kind = 2) (hn : m.src ≠ s.self) : Nice s (prepA s m) := by
  obtain ⟨hsrc, _⟩ := vm_view hm
  obtain ⟨hp, _⟩ := (vm_body hm).2.1 hk
  unfold prepA
  have key : ∀ t : Agr, AW t → few t → t.view = s.view → t.self = s.self → ∀ ps : List Pkt, (∀ p ∈ ps, PkOk s p) → Nice s ((bif decide (s.rank < m.rank) && !decide (s.phase = 0) then idleA t else t), ps) := by
    intro t h1 h2 h3 h4 ps hps
    cases decide (s.rank < m.rank) && !decide (s.phase = 0)
    · exact ⟨h1, h2, h3, h4, hps⟩
    · exact ⟨aw_idle h1, few_idle t, h3, h4, hps⟩
  cases ho : (prepR s.acc m.rank).2.2
  · exact key s h hf rfl rfl [] (by simp)
  · obtain ⟨hu, hle, e1, e2⟩ := prep_ok h.acc ho
    rw [e1, e2]
    have hrl := ((accB_iff s.acc).1 h.acc).2.1
    refine key _ (aw_prep h hp hle) hf rfl rfl _ (fun p hp2 => ?_)
    simp only [cond_true, List.mem_singleton] at hp2
    subst hp2
    refine ⟨vm_mk h.v h.self ?_, rfl, hn, .inr hsrc⟩
    simp only [hp, Bool.true_and]
    have h0 : decide (m.rank < s.acc.rank) = false := decide_eq_false (by omega)
    rcases acc_cut h with ⟨h1, h2⟩ | ⟨h1, h2⟩
    · rw [h0, h1, h2]
      rfl
    · rw [h0, h2]
      rcases h1 with h1 | h1
      · rw [h1]
        simp
      · rw [h1]
        simp
theorem nice_prom {s : Agr} (h : AW s) (hf : few s) {m : Msg} (hm : vmB s.view m = true) (hk : m.kind = 3) : Nice s (promA s m) := by
  obtain ⟨hsrc, _⟩ := vm_view hm
  obtain ⟨hp, _, hl⟩ := (vm_body hm).2.2.1 hk
  unfold promA
  cases hb : !decide (s.phase = 1) || !decide (m.rank = s.rank)
  · simp only [Bool.or_eq_false_iff, Bool.not_eq_false', decide_eq_true_eq] at hb
    have hph := h.ph
    rw [hb.1] at hph
    have hph : s.cho = [] ∧ s.rank ≠ 0 ∧ s.prop ≠ [] ∧ 0 ≤ ofB s.reps s.self := by
      rcases hph with h0 | ⟨h0 | h0, h1⟩
      · omega
      · exact ⟨h0.2, h1⟩
      · omega
    have h1 : AW { s with reps := (addR s.view s.reps ⟨m.src, m.last, m.cut⟩).1 } := by
      refine ⟨h.v, h.self, h.w0, h.w1, h.acc, h.pro, h.rk, h.acut, h.prop, h.cho, h.dec, h.box, h.own, add_reps h.reps, fun r hr h0 => ?_, h.accs, h.apr, h.rank, .inr ⟨.inl ⟨hb.1, hph.1⟩, hph.2.1, hph.2.2.1, ?_⟩⟩
      · rcases add_mem hr with rfl | hr
        · rcases hl with hl | hl
          · simp only [] at h0
            omega
          · rcases hl.1 with hl | hl
            · simp only [] at h0
              omega
            · exact hl
        · exact h.rpr r hr h0
      · obtain ⟨r, hr, he⟩ := ofb_iff.1 hph.2.2.2
        exact ofb_iff.2 ⟨r, add_sub h.reps hr, he⟩
    obtain ⟨h2, h3, h4, h5, _, h6⟩ := ok_adv h1
    refine ⟨h2, h3, h4, h5, fun p hp2 => ?_⟩
    simp only [cond_false] at hp2
    generalize advA { s with reps := (addR s.view s.reps ⟨m.src, m.last, m.cut⟩).1 } = A at *
    cases hA : decide (A.phase = 2)
    · rw [hA] at hp2
      cases hp2
    · rw [hA] at hp2
      simp only [cond_true, List.mem_singleton] at hp2
      subst hp2
      have hA := of_decide_eq_true hA
      have hc : A.cho ≠ [] ∧ A.rank ≠ 0 := by
        rcases h2.ph with h0 | ⟨h0 | h0, h7⟩
        · omega
        · omega
        · exact ⟨h0.2, h7.1⟩
      have := pk_accept h2 hc.2 (good_app h2.cho hc.1)
      exact ⟨by rw [← h4]; exact this.vm, by rw [← h5]; exact this.src, by rw [← h5]; exact this.ne, by rw [← h4]; exact this.to⟩
  · exact ⟨h, hf, rfl, rfl, by simp⟩
theorem nice_acct {s : Agr} (h : AW s) (hf : few s) {m : Msg} (hm : vmB s.view m = true) (hk : m.kind = 4) : Nice s (acctA s m) := by
  obtain ⟨hsrc, _⟩ := vm_view hm
  obtain ⟨hp, _, hc⟩ := (vm_body hm).2.2.2.1 hk
  have h1 := aw_accs (r := ⟨m.src, m.rank, m.cut⟩) h (vr_mk hsrc (proper_use hp).1 hc) hp
  unfold acctA
  cases ha : (acceptR s.acc m.rank m.cut).2
  · exact ⟨h1, hf, rfl, rfl, by simp⟩
  · have e := (accept_ok h.acc ha).2.2.2.1
    rw [e]
    have h2 := aw_accs (r := ⟨s.self, m.rank, m.cut⟩) h1 (vr_mk h.self (proper_use hp).1 hc) hp
    have h3 := aw_acc h2 hp hc
    refine ⟨h3, hf, rfl, rfl, fun p hp2 => ?_⟩
    simp only [cond_true, List.mem_singleton] at hp2
    subst hp2
    exact pk_accepted h hp hc
theorem nice_accd {s : Agr} (h : AW s) (hf : few s) {m : Msg} (hm : vmB s.view m = true) (hk : m.kind = 5) : Nice s ({ s with accs := enterR s.view s.accs ⟨m.src, m.rank, m.cut⟩ }, []) := by
  obtain ⟨hsrc, _⟩ := vm_view hm
  obtain ⟨hp, hc⟩ := (vm_body hm).2.2.2.2 hk
  exact ⟨aw_accs h (vr_mk hsrc (proper_use hp).1 hc) hp, hf, rfl, rfl, by simp⟩
theorem nice_deci {s : Agr} (h : AW s) (hf : few s) {m : Msg} (hm : vmB s.view m = true) (hk : m.kind = 6) : Nice s ({ s with dec := m.cut }, [pktOf s 0 6 0 0 m.cut]) := by
  have hc := (vm_body hm).1 (.inr hk)
  refine ⟨⟨h.v, h.self, h.w0, h.w1, h.acc, h.pro, h.rk, h.acut, h.prop, h.cho, good_iff.2 (.inr hc), h.box, h.own, h.reps, h.rpr, h.accs, h.apr, h.rank, h.ph⟩, hf, rfl, rfl, fun p hp => ?_⟩
  simp only [List.mem_singleton] at hp
  subst hp
  exact pk_dec h hc
/-! ballots -/
theorem ofbal_at {l : List Bal} {x : Int} (h : decide (0 ≤ ofBal l x) = true) : (ofBal l x).toNat < l.length ∧ (l.getD (ofBal l x).toNat bal0).mem = x := by
  have h := of_decide_eq_true h
  unfold ofBal at h ⊢
  rcases hf : (List.range l.length).find? (fun i => decide ((l.getD i bal0).mem = x)) with _ | n
  · simp only [findB, hf] at h
    omega
  · have hn : n < l.length := List.mem_range.1 (List.mem_of_find?_eq_some hf)
    have hn2 := List.find?_some hf
    simp only [findB, hf, Int.toNat_natCast]
    exact ⟨hn, of_decide_eq_true hn2⟩
theorem cut_some {l : List Bal} {x : Int} (h : (cutOf l x).2 = true) : ∃ b ∈ l, b.mem = x ∧ b.cut = (cutOf l x).1 := by
  unfold cutOf at h ⊢
  cases hd : decide (0 ≤ ofBal l x)
  · rw [hd] at h
    cases h
  · obtain ⟨h1, h2⟩ := ofbal_at hd
    refine ⟨l.getD (ofBal l x).toNat bal0, ?_, h2, rfl⟩
    simp [h1]
theorem cut_none {l : List Bal} {x : Int} (h : (cutOf l x).2 = false) : ∀ b ∈ l, b.mem ≠ x := by
  unfold cutOf at h
  cases hd : decide (0 ≤ ofBal l x)
  · exact ofb_neg hd
  · rw [hd] at h
    cases h
theorem bal_one {l : List Bal} (hp : List.Pairwise (fun a b : Bal => a.mem < b.mem) l) {a b : Bal} (ha : a ∈ l) (hb : b ∈ l) (he : a.mem = b.mem) : a = b := by
  obtain ⟨i, hi, rfl⟩ := List.getElem_of_mem ha
  obtain ⟨j, hj, rfl⟩ := List.getElem_of_mem hb
  rw [List.pairwise_iff_getElem] at hp
  rcases Nat.lt_trichotomy i j with h | h | h
  · have := hp i j hi hj h
    omega
  · subst h
    rfl
  · have := hp j i hj hi h
    omega
theorem own_iff {v : View} (hv : viewB v = true) {l : List Bal} (hb : boxB v l = true) {x : Int} {c : List Int} : ((cutOf l x).2 = true → (cutOf l x).1 = c) ↔ ∀ b ∈ l, b.mem = x → b.cut = c := by
  constructor
  · intro h b hbm he
    cases hc : (cutOf l x).2
    · exact absurd he (cut_none hc b hbm)
    · obtain ⟨b2, h2, h3, h4⟩ := cut_some hc
      have := bal_one ((box_iff hv).1 hb).2 hbm h2 (he.trans h3.symm)
      rw [this, h4, h hc]
  · intro h hc
    obtain ⟨b2, h2, h3, h4⟩ := cut_some hc
    rw [← h4, h b2 h2 h3]
theorem cast_ok {v : View} {l : List Bal} {b : Bal} (h : (castR v l b).2 = 0) : boxB v l = true ∧ appB v b.cut = true ∧ inB v.mem b.mem = true ∧ (∀ x ∈ l, x.mem ≠ b.mem) ∧ (castR v l b).1 = insB l b := by
  unfold castR at h ⊢
  cases h1 : !boxB v l || !appB v b.cut
  · rw [h1, cond_false] at h
    rw [cond_false]
    simp only [Bool.or_eq_false_iff, Bool.not_eq_false'] at h1
    cases h2 : !inB v.mem b.mem
    · rw [h2, cond_false] at h
      rw [cond_false]
      cases h3 : decide (0 ≤ ofBal l b.mem)
      · exact ⟨h1.1, h1.2, by simpa using h2, ofb_neg h3, rfl⟩
      · rw [h3] at h
        simp at h
    · rw [h2] at h
      simp at h
  · rw [h1] at h
    simp at h
theorem box_ins {v : View} (hv : viewB v = true) {l : List Bal} {b : Bal} (h : boxB v l = true) (hc : appB v b.cut = true) (hi : inB v.mem b.mem = true) (hn : ∀ x ∈ l, x.mem ≠ b.mem) : boxB v (insB l b) = true := by
  obtain ⟨h1, h2⟩ := (box_iff hv).1 h
  refine (box_iff hv).2 ⟨fun x hx => ?_, (insb_pair h2).2 hn⟩
  rcases insB_mem hx with rfl | hx
  · exact ⟨hi, hc⟩
  · exact h1 x hx
theorem aw_box {s : Agr} (h : AW s) {l : List Bal} (hb : boxB s.view l = true) (ho : ∀ b ∈ l, b.mem = s.self → b.cut = s.prop) : AW { s with box := l } :=
  ⟨h.v, h.self, h.w0, h.w1, h.acc, h.pro, h.rk, h.acut, h.prop, h.cho, h.dec, hb, (own_iff h.v hb).2 ho, h.reps, h.rpr, h.accs, h.apr, h.rank, h.ph⟩
theorem nice_vote {s : Agr} (h : AW s) (hf : few s) {m : Msg} (hn : m.src ≠ s.self) : Nice s (voteA s m, []) := by
  unfold voteA
  cases hc : decide ((castR s.view s.box ⟨m.src, m.cut⟩).2 = 0)
  · exact ⟨h, hf, rfl, rfl, by simp⟩
  · obtain ⟨h1, h2, h3, h4, h5⟩ := cast_ok (of_decide_eq_true hc)
    rw [cond_true, h5]
    refine ⟨aw_box h (box_ins h.v h1 h2 h3 h4) (fun b hb he => ?_), hf, rfl, rfl, by simp⟩
    rcases insB_mem hb with rfl | hb
    · exact absurd he hn
    · exact (own_iff h.v h.box).1 h.own b hb he
theorem nice_act {s : Agr} (h : AW s) (hf : few s) {m : Msg} (hm : vmB s.view m = true) (hn : m.src ≠ s.self) : Nice s (actA s m) := by
  unfold actA
  rcases vm_kind hm with hk | hk | hk | hk | hk | hk
  · rw [if_pos hk]; exact nice_vote h hf hn
  · rw [if_neg (by omega), if_pos hk]; exact nice_prep h hf hm hk hn
  · rw [if_neg (by omega), if_neg (by omega), if_pos hk]; exact nice_prom h hf hm hk
  · rw [if_neg (by omega), if_neg (by omega), if_neg (by omega), if_pos hk]; exact nice_acct h hf hm hk
  · rw [if_neg (by omega), if_neg (by omega), if_neg (by omega), if_neg (by omega), if_pos hk]; exact nice_accd h hf hm hk
  · rw [if_neg (by omega), if_neg (by omega), if_neg (by omega), if_neg (by omega), if_neg (by omega)]; exact nice_deci h hf hm hk
theorem nice_rec {s : Agr} (h : AW s) (hf : few s) {m : Msg} (hok : (recA s m).2.2 = 0) : Nice s ((recA s m).1, (recA s m).2.1) := by
  have hb : agrB s = true := (agr_iff s).2 ⟨h, hf⟩
  unfold recA at hok ⊢
  rw [if_neg (by rw [hb]; simp)] at hok ⊢
  by_cases h2 : decide (m.view = s.view.num) = false
  · rw [if_pos h2] at hok
    simp at hok
  rw [if_neg h2] at hok ⊢
  by_cases h3 : (!vmB s.view m || decide (m.src = s.self)) = true
  · rw [if_pos h3] at hok
    simp at hok
  rw [if_neg h3] at hok ⊢
  have h3 : (!vmB s.view m || decide (m.src = s.self)) = false := by simpa using h3
  simp only [Bool.or_eq_false_iff, Bool.not_eq_false', decide_eq_false_iff_not] at h3
  by_cases h5 : decide (0 < (s.dec.length : Int)) = true
  · rw [if_pos h5]
    refine ⟨h, hf, rfl, rfl, fun p hp => ?_⟩
    cases hk : decide (m.kind = 6)
    · simp only [hk, cond_false, List.mem_singleton] at hp
      subst hp
      have hd := good_app h.dec (len1.1 h5)
      exact ⟨vm_mk h.v h.self (by simp [hd]), rfl, h3.2, .inr (vm_view h3.1).1⟩
    · simp only [hk, cond_true] at hp
      cases hp
  rw [if_neg h5]
  exact nice_end (nice_act h hf h3.1 h3.2)
end Go.Proofs.Ytmbniilpgbjcfaa

set_option linter.unusedSimpArgs false
set_option linter.unusedVariables false
set_option maxRecDepth 100000
namespace Go.Proofs.Ytmbniilpgbjcfaa
open Go.Lift
/-! the agreement: small states -/
def smallC (l : List Bal) (i : Nat) : Bool := !decide (60 < ((l.getD i bal0).cut.length : Int))
def smallX (v : View) (l : List Bal) : Bool := allB (smallC l) l.length && (decide ((v.mem.length : Int) ≤ 60) && decide ((l.length : Int) ≤ 60))
theorem c_law8_Small (v : View) (hv : v.mem.length ≤ maxLen) (l : List Bal) (hl : l.length ≤ maxLen) : Ret Try.prog 26 [.agg (viewE v), .lst 2 (l.map balE) false] (.v (.bool (smallX v l))) := by
  have hl' : l.length ≤ 9223372036854775807 := hl
  refine ret_of_body (fn := Try.f26) (c := Try.f26.body.getD .skip) hm hT (by kernel_rfl) Try.func26 (by kernel_rfl) (by kernel_rfl) (by kernel_rfl) (by kernel_rfl) ?_
  repeat' ((conv => whnf); first | refine And.intro (fun h => h) ?_ | refine dcond_t (by assumption) ?_ | refine dcond_f (by assumption) ?_ | (refine dcond_intro ?_ ?_ <;> intro h) | exact .refl | refine And.intro (by kernel_rfl) ?_ | refine And.intro ⟨fun h => h, fun h => h⟩ ?_ | refine Exists.intro false ?_ | (refine And.intro ?_ ?_; focus (simp; done)) | fail)
  refine ⟨Nat, fun i => ⟨[(1, .lst 2 (l.map balE) false), (2, .lp 0 0), (5, i64 i)], [.cells 24 (viewE v)]⟩, fun i => i ≤ l.length ∧ ∀ j, j < i → smallC l j = true, fun i => l.length - i, [], ⟨0, ⟨Nat.zero_le _, by omega⟩, ?_⟩, ?_⟩
  · exact ⟨by repeat' ((conv => whnf); first | exact trivial | refine And.intro (by (conv => arg 1; whnf); first | (with_reducible exact .refl) | exact dle_int (wrap_succ (by omega)) | exact .refl) ?_), by repeat' ((conv => whnf); first | exact trivial | refine And.intro ?_ ?_ | exact .refl), rfl⟩
  · intro i ⟨hi, hall⟩
    conv => whnf
    refine dcond_intro ?_ ?_ <;> intro h
    · have hlt : i < l.length := by simpa using h
      clear h
      have hg : l.getD i bal0 = l[i] := by simp [hlt]
      repeat' ((conv => whnf); first | refine And.intro (fun h => h) ?_ | refine dcond_t (by assumption) ?_ | refine dcond_f (by assumption) ?_ | (refine dcond_intro ?_ ?_ <;> intro h) | exact .refl | refine And.intro (by kernel_rfl) ?_ | refine And.intro ⟨fun h => h, fun h => h⟩ ?_ | refine ⟨_, _, And.intro ⟨rfl, get_map hlt⟩ ?_⟩ | refine Exists.intro false ?_ | (refine And.intro ?_ ?_; focus (simp; done)) | fail)
      all_goals (conv => whnf)
      · refine dle_bool ?_
        rw [List.length_map] at h
        rw [smallX, allB_false hlt (by simp only [smallC, hg, h]; rfl), Bool.false_and]
      · rw [List.length_map] at h
        refine ⟨i + 1, ⟨hlt, fun j hj => ?_⟩, by simp only []; omega, ?_⟩
        · rcases Nat.lt_succ_iff_lt_or_eq.1 hj with hj | rfl
          · exact hall j hj
          · simp only [smallC, hg, h]; rfl
        · exact ⟨by repeat' ((conv => whnf); first | exact trivial | refine And.intro (by (conv => arg 1; whnf); first | (with_reducible exact .refl) | exact dle_int (wrap_succ (by omega)) | exact .refl) ?_), by repeat' ((conv => whnf); first | exact trivial | refine And.intro ?_ ?_ | exact .refl), rfl⟩
    · have hge : ¬ i < l.length := by simpa using h
      clear h
      repeat' ((conv => whnf); first | refine And.intro (fun h => h) ?_ | refine dcond_t (by assumption) ?_ | refine dcond_f (by assumption) ?_ | (refine dcond_intro ?_ ?_ <;> intro h) | exact .refl | refine And.intro (by kernel_rfl) ?_ | refine And.intro ⟨fun h => h, fun h => h⟩ ?_ | refine Exists.intro false ?_ | (refine And.intro ?_ ?_; focus (simp; done)) | fail)
      all_goals (conv => whnf)
      all_goals (refine dle_bool ?_)
      all_goals (rw [smallX, allB_true.2 (fun j hj => hall j (by omega)), Bool.true_and, List.length_map, List.length_map])
def smA10 (s : Agr) : Bool :=
  bif decide (60 < (s.view.mem.length : Int)) || decide (60 < (s.acc.cut.length : Int)) || decide (60 < (s.prop.length : Int)) || decide (60 < (s.cho.length : Int)) || decide (60 < (s.dec.length : Int)) || !smallX s.view s.box || decide (60 < (s.reps.length : Int)) || decide (60 < (s.accs.length : Int)) then false
  else allB (smallAt s.reps) s.reps.length && allB (smallAt s.accs) s.accs.length
theorem all_small {l : List Rpt} (h : allB (smallAt l) l.length = true) : ∀ r ∈ l, r.cut.length ≤ 1000 := fun r hr => by
  obtain ⟨i, hi, rfl⟩ := List.getElem_of_mem hr
  have := allB_true.1 h i hi
  simp only [smallAt, Bool.not_eq_true', decide_eq_false_iff_not, List.getD_eq_getElem?_getD, List.getElem?_eq_getElem hi, Option.getD_some] at this
  omega
theorem sm_all {s : Agr} (h : smA10 s = true) : SmA s := by
  unfold smA10 at h
  cases h1 : decide (60 < (s.view.mem.length : Int)) || decide (60 < (s.acc.cut.length : Int)) || decide (60 < (s.prop.length : Int)) || decide (60 < (s.cho.length : Int)) || decide (60 < (s.dec.length : Int)) || !smallX s.view s.box || decide (60 < (s.reps.length : Int)) || decide (60 < (s.accs.length : Int))
  · rw [h1, cond_false, Bool.and_eq_true] at h
    simp only [Bool.or_eq_false_iff, Bool.not_eq_false', decide_eq_false_iff_not] at h1
    obtain ⟨⟨⟨⟨⟨⟨⟨a1, a2⟩, a3⟩, a4⟩, a5⟩, a6⟩, a7⟩, a8⟩ := h1
    simp only [smallX, Bool.and_eq_true, decide_eq_true_eq] at a6
    refine ⟨by omega, by omega, by omega, by omega, fun b hb => ?_, by omega, all_small h.1, by omega, by omega, all_small h.2, by omega⟩
    obtain ⟨i, hi, rfl⟩ := List.getElem_of_mem hb
    have := allB_true.1 a6.1 i hi
    simp only [smallC, Bool.not_eq_true', decide_eq_false_iff_not, List.getD_eq_getElem?_getD, List.getElem?_eq_getElem hi, Option.getD_some] at this
    omega
  · rw [h1] at h
    cases h
set_option maxHeartbeats 4000000 in
theorem c_law10_Small (s : Agr) (k1 : s.view.mem.length ≤ maxLen) (k2 : s.box.length ≤ maxLen) (k3 : s.reps.length ≤ maxLen) (k4 : s.accs.length ≤ maxLen) : Ret Try.prog 8 [.agg (agrE s)] (.v (.bool (smA10 s))) := by
  have k3' : s.reps.length ≤ 9223372036854775807 := k3
  have k4' : s.accs.length ≤ 9223372036854775807 := k4
  have e26 := c_law8_Small s.view k1 s.box k2
  unfold smA10
  generalize smallX s.view s.box = B at *
  refine ret_of_body (fn := Try.f8) (c := Try.f8.body.getD .skip) hm hT (by kernel_rfl) Try.func8 (by kernel_rfl) (by kernel_rfl) (by kernel_rfl) (by kernel_rfl) ?_
  repeat' ((conv => whnf); first | refine And.intro (fun h => h) ?_ | refine dcond_t (by assumption) ?_ | refine dcond_f (by assumption) ?_ | (refine dcond_intro ?_ ?_ <;> intro h) | exact .refl | refine And.intro (by kernel_rfl) ?_ | refine And.intro ⟨fun h => h, fun h => h⟩ ?_ | refine .inl ⟨_, _, DleAll_refl _, e26, ?_⟩ | refine ⟨_, _, DleAll_refl _, fun _ => e26, ?_⟩ | refine ⟨_, _, DleAll_refl _, e26, ?_⟩ | refine Exists.intro false ?_ | (refine And.intro ?_ ?_; focus (simp; done)) | fail)
  all_goals (conv => whnf)
  · simp only [List.length_map] at h
    refine dle_bool ?_
    rw [h, cond_true]
  · simp only [List.length_map] at h
    rw [h, cond_false]
    clear h
    refine ⟨Nat, fun i => ⟨[(1, .lp 0 0), (3, i64 i)], [.cells 30 (agrE s)]⟩, fun i => i ≤ s.reps.length ∧ ∀ j, j < i → smallAt s.reps j = true, fun i => s.reps.length - i, [], ⟨0, ⟨Nat.zero_le _, by omega⟩, ?_⟩, ?_⟩
    · conv => whnf
      exact ⟨⟨.refl, .refl, trivial⟩, ⟨.refl, trivial⟩, by rfl⟩
    · intro i ⟨hi, hall⟩
      conv => whnf
      refine dcond_intro ?_ ?_ <;> intro h
      · have hlt : i < s.reps.length := by simpa using h
        clear h
        have hg : s.reps.getD i rpt0 = s.reps[i] := by simp [hlt]
        repeat' ((conv => whnf); first | refine And.intro (fun h => h) ?_ | refine dcond_t (by assumption) ?_ | refine dcond_f (by assumption) ?_ | (refine dcond_intro ?_ ?_ <;> intro h) | exact .refl | refine And.intro (by kernel_rfl) ?_ | refine And.intro ⟨fun h => h, fun h => h⟩ ?_ | refine ⟨_, _, And.intro ⟨rfl, get_map hlt⟩ ?_⟩ | refine Exists.intro false ?_ | (refine And.intro ?_ ?_; focus (simp; done)) | fail)
        all_goals (conv => whnf)
        · refine dle_bool ?_
          rw [List.length_map] at h
          rw [allB_false hlt (by simp only [smallAt, hg, h]; rfl), Bool.false_and]
        · rw [List.length_map] at h
          refine ⟨i + 1, ⟨hlt, fun j hj => ?_⟩, by simp only []; omega, ?_⟩
          · rcases Nat.lt_succ_iff_lt_or_eq.1 hj with hj | rfl
            · exact hall j hj
            · simp only [smallAt, hg, h]; rfl
          · conv => whnf
            exact ⟨⟨.refl, dle_int (wrap_succ (by omega)), trivial⟩, ⟨.refl, trivial⟩, by rfl⟩
      · have hge : ¬ i < s.reps.length := by simpa using h
        clear h
        rw [allB_true.2 (fun j hj => hall j (by omega)), Bool.true_and]
        conv => whnf
        refine ⟨Nat, fun i => ⟨[(1, .lp 0 0), (4, i64 i)], [.cells 30 (agrE s)]⟩, fun i => i ≤ s.accs.length ∧ ∀ j, j < i → smallAt s.accs j = true, fun i => s.accs.length - i, [], ⟨0, ⟨Nat.zero_le _, by omega⟩, ?_⟩, ?_⟩
        · conv => whnf
          exact ⟨⟨.refl, .refl, trivial⟩, ⟨.refl, trivial⟩, by rfl⟩
        · intro i ⟨hi, hall⟩
          conv => whnf
          refine dcond_intro ?_ ?_ <;> intro h
          · have hlt : i < s.accs.length := by simpa using h
            clear h
            have hg : s.accs.getD i rpt0 = s.accs[i] := by simp [hlt]
            repeat' ((conv => whnf); first | refine And.intro (fun h => h) ?_ | refine dcond_t (by assumption) ?_ | refine dcond_f (by assumption) ?_ | (refine dcond_intro ?_ ?_ <;> intro h) | exact .refl | refine And.intro (by kernel_rfl) ?_ | refine And.intro ⟨fun h => h, fun h => h⟩ ?_ | refine ⟨_, _, And.intro ⟨rfl, get_map hlt⟩ ?_⟩ | refine Exists.intro false ?_ | (refine And.intro ?_ ?_; focus (simp; done)) | fail)
            all_goals (conv => whnf)
            · refine dle_bool ?_
              rw [List.length_map] at h
              rw [allB_false hlt (by simp only [smallAt, hg, h]; rfl)]
            · rw [List.length_map] at h
              refine ⟨i + 1, ⟨hlt, fun j hj => ?_⟩, by simp only []; omega, ?_⟩
              · rcases Nat.lt_succ_iff_lt_or_eq.1 hj with hj | rfl
                · exact hall j hj
                · simp only [smallAt, hg, h]; rfl
              · conv => whnf
                exact ⟨⟨.refl, dle_int (wrap_succ (by omega)), trivial⟩, ⟨.refl, trivial⟩, by rfl⟩
          · have hge : ¬ i < s.accs.length := by simpa using h
            clear h
            conv => whnf
            refine dle_bool ?_
            rw [allB_true.2 (fun j hj => hall j (by omega))]
end Go.Proofs.Ytmbniilpgbjcfaa

set_option linter.unusedSimpArgs false
set_option linter.unusedVariables false
set_option maxRecDepth 100000
namespace Go.Proofs.Ytmbniilpgbjcfaa
open Go.Lift
/-! the agreement: the reference's valid states, equal states -/
theorem ofb_ix {l : List Bal} {x : Int} (h : decide (0 ≤ ofBal l x) = true) : ofBal l x = ((ofBal l x).toNat : Int) ∧ (l.map balE)[(ofBal l x).toNat]? = some (balE (l.getD (ofBal l x).toNat bal0)) := by
  have h := of_decide_eq_true h
  refine ⟨by omega, ?_⟩
  unfold ofBal at h ⊢
  rcases hf : (List.range l.length).find? (fun i => decide ((l.getD i bal0).mem = x)) with _ | n
  · simp only [findB, hf] at h
    omega
  · have hm := List.mem_of_find?_eq_some hf
    have hn : n < l.length := List.mem_range.1 hm
    simp only [findB, hf, Int.toNat_natCast]
    simp [hn]
theorem allB_and {p q : Nat → Bool} {n : Nat} : allB (fun i => p i && q i) n = (allB p n && allB q n) := by
  cases h : allB p n && allB q n
  · cases h2 : allB (fun i => p i && q i) n
    · rfl
    · have h2 := allB_true.1 h2
      have h3 : allB p n = true := allB_true.2 fun i hi => by
        have := h2 i hi
        simp only [Bool.and_eq_true] at this
        exact this.1
      have h4 : allB q n = true := allB_true.2 fun i hi => by
        have := h2 i hi
        simp only [Bool.and_eq_true] at this
        exact this.2
      rw [h3, h4] at h
      cases h
  · simp only [Bool.and_eq_true] at h
    exact allB_true.2 fun i hi => by rw [allB_true.1 h.1 i hi, allB_true.1 h.2 i hi]; rfl
theorem reps_low {v : View} {l : List Rpt} (h : repsB v l = true) : allB (leP (-1) l) l.length = true := by
  have hv : viewB v = true := by
    simp only [repsB, Bool.and_eq_true] at h
    exact h.1
  refine allB_true.2 fun i hi => ?_
  have hg : l.getD i rpt0 = l[i] := by simp [hi]
  have := ((reps_iff hv).1 h).1 _ (List.getElem_mem hi)
  have hlow := @owner_low l[i].rank
  simp only [vrB, Bool.and_eq_true, Bool.or_eq_true, decide_eq_true_eq, usableB, Bool.not_eq_true', decide_eq_false_iff_not] at this
  simp only [leP, hg, Bool.not_eq_true', decide_eq_false_iff_not]
  rcases this.2 with h1 | ⟨h1 | h1, _⟩
  · omega
  · omega
  · have := hlow h1
    omega
theorem agrB_eq (s : Agr) : agrB s = (!(!viewB s.view || !inB s.view.mem s.self || decide (s.wait < 0) || decide (1099511627776 < s.wait)) && (!(!accB s.acc || !decide (s.acc.pro = 0) && !properB s.view s.acc.pro || decide (0 < s.acc.rank) && !properB s.view s.acc.rank || !goodB s.view s.acc.cut || !goodB s.view s.prop || !goodB s.view s.cho || !goodB s.view s.dec || !boxB s.view s.box) && (!(decide (0 ≤ ofBal s.box s.self) && !sameI (s.box.getD (ofBal s.box s.self).toNat bal0).cut s.prop) && (!(!repsB s.view s.reps || !allB (fun i => leP (-1) s.reps i && rkP s.view s.reps i) s.reps.length || !repsB s.view s.accs || !allB (fun i => leP 1 s.accs i && rkP s.view s.accs i) s.accs.length) && phaseB s)))) := by
  have e2 := @reps_low s.view s.reps
  unfold agrB prB
  rw [allB_and, allB_and]
  rw [show ((cutOf s.box s.self).2 && !sameI (cutOf s.box s.self).1 s.prop) = (decide (0 ≤ ofBal s.box s.self) && !sameI (s.box.getD (ofBal s.box s.self).toNat bal0).cut s.prop) from by
    unfold cutOf
    cases decide (0 ≤ ofBal s.box s.self) <;> rfl]
  generalize (!viewB s.view || !inB s.view.mem s.self || decide (s.wait < 0) || decide (1099511627776 < s.wait)) = a1
  generalize (!accB s.acc || !decide (s.acc.pro = 0) && !properB s.view s.acc.pro || decide (0 < s.acc.rank) && !properB s.view s.acc.rank || !goodB s.view s.acc.cut) = a2
  generalize (decide (0 ≤ ofBal s.box s.self) && !sameI (s.box.getD (ofBal s.box s.self).toNat bal0).cut s.prop) = a3
  generalize goodB s.view s.prop = b1
  generalize goodB s.view s.cho = b2
  generalize goodB s.view s.dec = b3
  generalize boxB s.view s.box = b4
  generalize phaseB s = c1
  generalize repsB s.view s.reps = c2 at *
  generalize repsB s.view s.accs = c3
  generalize allB (leP (-1) s.reps) s.reps.length = c4 at *
  generalize allB (rkP s.view s.reps) s.reps.length = c5
  generalize allB (leP 1 s.accs) s.accs.length = c6
  generalize allB (rkP s.view s.accs) s.accs.length = c7
  cases a1
  · cases a2
    · cases a3
      · cases b1 <;> cases b2 <;> cases b3 <;> cases b4 <;> simp
        cases c2
        · simp
        · rw [e2 rfl]
          cases c1 <;> cases c3 <;> cases c5 <;> cases c6 <;> cases c7 <;> rfl
      · simp
    · simp
  · rfl
theorem phase_ref (s : Agr) : (bif !decide (s.rank = 0) && (!properB s.view s.rank || !decide (ownerOf s.rank = s.self)) || decide (s.phase < 0) || decide (2 < s.phase) then false
    else bif decide (s.phase = 0) then decide ((s.reps.length : Int) = 0) && decide ((s.cho.length : Int) = 0)
    else !decide (s.rank = 0) && decide (0 < (s.prop.length : Int)) && decide (0 ≤ ofB s.reps s.self) && (decide (0 < (s.cho.length : Int)) == decide (s.phase = 2)) && (decide (s.phase = 2) || decide ((s.reps.length : Int) < majB s.view.mem.length))) = phaseB s := by
  unfold phaseB
  generalize (!decide (s.rank = 0) && (!properB s.view s.rank || !decide (ownerOf s.rank = s.self))) = a1
  generalize decide ((s.reps.length : Int) = 0) = a2
  have hc : decide ((s.cho.length : Int) = 0) = !decide (0 < (s.cho.length : Int)) := by
    by_cases h : (s.cho.length : Int) = 0
    · rw [decide_eq_true h, h]
      rfl
    · rw [decide_eq_false h, decide_eq_true (show 0 < (s.cho.length : Int) by omega)]
      rfl
  rw [hc]
  generalize decide (0 < (s.cho.length : Int)) = a3
  generalize decide ((s.reps.length : Int) < majB s.view.mem.length) = a4
  generalize decide (0 ≤ ofB s.reps s.self) = a5
  generalize decide (0 < (s.prop.length : Int)) = a6
  generalize decide (s.rank = 0) = a7
  by_cases p0 : s.phase = 0
  · cases a1 <;> cases a2 <;> cases a3 <;> simp [p0]
  · by_cases p1 : s.phase = 1
    · cases a1 <;> cases a3 <;> cases a4 <;> cases a5 <;> cases a6 <;> cases a7 <;> simp [p1]
    · by_cases p2 : s.phase = 2
      · cases a1 <;> cases a3 <;> cases a4 <;> cases a5 <;> cases a6 <;> cases a7 <;> simp [p2]
      · have hr : (decide (s.phase < 0) || decide (2 < s.phase)) = true := by
          simp only [Bool.or_eq_true, decide_eq_true_eq]
          omega
        rw [Bool.or_assoc, hr, Bool.or_true, cond_true, decide_eq_false p0, decide_eq_false p1, decide_eq_false p2]
        cases a1 <;> cases a3 <;> rfl
set_option maxHeartbeats 8000000 in
theorem c_ref10_Valid (s : Agr) (hs : SmA s) : Ret Try.prog 13 [.agg (agrE s)] (.v (.bool (agrB s))) := by
  have hvm := mx hs.mem
  have e48 := c_ref8_Valid s.view (by have := hs.mem; omega) s.box (mx hs.box) (fun b hb => by have := hs.boxc b hb; omega)
  have e49 := c_ref8_Of s.box (mx hs.box) s.self
  have eacc := c_ref9_Valid s.acc (mx hs.acut)
  have o1 := c_ref10_Good s.view (by have := hs.mem; omega) s.acc.cut (by have := hs.acut; omega)
  have o2 := c_ref10_Good s.view (by have := hs.mem; omega) s.prop (by have := hs.prop; omega)
  have o3 := c_ref10_Good s.view (by have := hs.mem; omega) s.cho (by have := hs.cho; omega)
  have o4 := c_ref10_Good s.view (by have := hs.mem; omega) s.dec (by have := hs.dec; omega)
  have eo := c_ref9_Owner s.rank
  rw [ownerRef_eq] at eo
  have e51 := c_ref9_ValidReports s.view (by have := hs.mem; omega) s.reps (mx hs.reps) (fun b hb => by have := hs.repc b hb; omega)
  have e51' := c_ref9_ValidReports s.view (by have := hs.mem; omega) s.accs (mx hs.accs) (fun b hb => by have := hs.accc b hb; omega)
  have e52 := c_ref10_ranks s.view (by have := hs.mem; omega) s.reps (mx hs.reps) (-1)
  have e52' := c_ref10_ranks s.view (by have := hs.mem; omega) s.accs (mx hs.accs) 1
  have e53 := c_ref9_Of s.reps (mx hs.reps) s.self
  have hix := @ofb_ix s.box s.self
  have hcut : (s.box.getD (ofBal s.box s.self).toNat bal0).cut.length ≤ maxLen := by
    rcases Nat.lt_or_ge (ofBal s.box s.self).toNat s.box.length with h | h
    · simp only [List.getD_eq_getElem?_getD, List.getElem?_eq_getElem h, Option.getD_some]
      exact mx (hs.boxc _ (List.getElem_mem h))
    · simp only [List.getD_eq_getElem?_getD, List.getElem?_eq_none h, Option.getD_none]
      exact Nat.zero_le _
  have e34 := c_ref1_SameInts (s.box.getD (ofBal s.box s.self).toNat bal0).cut s.prop hcut
  have hph := phase_ref s
  rw [agrB_eq]
  generalize (s.box.getD (ofBal s.box s.self).toNat bal0) = X at *
  generalize phaseB s = PB at *
  generalize allB (fun i => leP (-1) s.reps i && rkP s.view s.reps i) s.reps.length = R1 at *
  generalize allB (fun i => leP 1 s.accs i && rkP s.view s.accs i) s.accs.length = R2 at *
  generalize repsB s.view s.reps = R3 at *
  generalize repsB s.view s.accs = R4 at *
  generalize accB s.acc = R5 at *
  generalize boxB s.view s.box = R6 at *
  refine ret_of_body (fn := Try.f13) (c := Try.f13.body.getD .skip) hm hT (by kernel_rfl) Try.func13 (by kernel_rfl) (by kernel_rfl) (by kernel_rfl) (by kernel_rfl) ?_
  repeat' ((conv => whnf); first | refine And.intro (fun h => h) ?_ | refine dcond_t (by assumption) ?_ | refine dcond_f (by assumption) ?_ | (refine dcond_intro ?_ ?_ <;> intro h) | exact .refl | refine And.intro (by kernel_rfl) ?_ | refine And.intro ⟨fun h => h, fun h => h⟩ ?_ | refine .inl ⟨_, _, DleAll_refl _, c_ref3_Valid _ hvm, ?_⟩ | refine ⟨_, _, DleAll_refl _, fun _ => c_ref3_Valid _ hvm, ?_⟩ | refine ⟨_, _, DleAll_refl _, c_ref3_Valid _ hvm, ?_⟩ | refine .inl ⟨_, _, DleAll_refl _, c_ref3_Contains _ hvm _, ?_⟩ | refine ⟨_, _, DleAll_refl _, fun _ => c_ref3_Contains _ hvm _, ?_⟩ | refine ⟨_, _, DleAll_refl _, c_ref3_Contains _ hvm _, ?_⟩ | refine .inl ⟨_, _, DleAll_refl _, eacc, ?_⟩ | refine ⟨_, _, DleAll_refl _, fun _ => eacc, ?_⟩ | refine ⟨_, _, DleAll_refl _, eacc, ?_⟩ | refine .inl ⟨_, _, DleAll_refl _, c_ref10_Proper _ hvm _, ?_⟩ | refine ⟨_, _, DleAll_refl _, fun _ => c_ref10_Proper _ hvm _, ?_⟩ | refine ⟨_, _, DleAll_refl _, c_ref10_Proper _ hvm _, ?_⟩ | refine .inl ⟨_, _, DleAll_refl _, o1, ?_⟩ | refine ⟨_, _, DleAll_refl _, fun _ => o1, ?_⟩ | refine ⟨_, _, DleAll_refl _, o1, ?_⟩ | refine .inl ⟨_, _, DleAll_refl _, o2, ?_⟩ | refine ⟨_, _, DleAll_refl _, fun _ => o2, ?_⟩ | refine ⟨_, _, DleAll_refl _, o2, ?_⟩ | refine .inl ⟨_, _, DleAll_refl _, o3, ?_⟩ | refine ⟨_, _, DleAll_refl _, fun _ => o3, ?_⟩ | refine ⟨_, _, DleAll_refl _, o3, ?_⟩ | refine .inl ⟨_, _, DleAll_refl _, o4, ?_⟩ | refine ⟨_, _, DleAll_refl _, fun _ => o4, ?_⟩ | refine ⟨_, _, DleAll_refl _, o4, ?_⟩ | refine .inl ⟨_, _, DleAll_refl _, e48, ?_⟩ | refine ⟨_, _, DleAll_refl _, fun _ => e48, ?_⟩ | refine ⟨_, _, DleAll_refl _, e48, ?_⟩ | refine .inl ⟨_, _, DleAll_refl _, e49, ?_⟩ | refine ⟨_, _, DleAll_refl _, fun _ => e49, ?_⟩ | refine ⟨_, _, DleAll_refl _, e49, ?_⟩ | refine ⟨(ofBal s.box s.self).toNat, balE X, And.intro ⟨⟨fun h => h, fun h => h⟩, fun hg => hix hg⟩ ?_⟩ | refine .inl ⟨_, _, DleAll_refl _, e34, ?_⟩ | refine ⟨_, _, DleAll_refl _, fun _ => e34, ?_⟩ | refine ⟨_, _, DleAll_refl _, e34, ?_⟩ | refine .inl ⟨_, _, DleAll_refl _, eo, ?_⟩ | refine ⟨_, _, DleAll_refl _, fun _ => eo, ?_⟩ | refine ⟨_, _, DleAll_refl _, eo, ?_⟩ | refine .inl ⟨_, _, DleAll_refl _, e51, ?_⟩ | refine ⟨_, _, DleAll_refl _, fun _ => e51, ?_⟩ | refine ⟨_, _, DleAll_refl _, e51, ?_⟩ | refine .inl ⟨_, _, DleAll_refl _, e51', ?_⟩ | refine ⟨_, _, DleAll_refl _, fun _ => e51', ?_⟩ | refine ⟨_, _, DleAll_refl _, e51', ?_⟩ | refine .inl ⟨_, _, DleAll_refl _, e52, ?_⟩ | refine ⟨_, _, DleAll_refl _, fun _ => e52, ?_⟩ | refine ⟨_, _, DleAll_refl _, e52, ?_⟩ | refine .inl ⟨_, _, DleAll_refl _, e52', ?_⟩ | refine ⟨_, _, DleAll_refl _, fun _ => e52', ?_⟩ | refine ⟨_, _, DleAll_refl _, e52', ?_⟩ | refine .inl ⟨_, _, DleAll_refl _, e53, ?_⟩ | refine ⟨_, _, DleAll_refl _, fun _ => e53, ?_⟩ | refine ⟨_, _, DleAll_refl _, e53, ?_⟩ | refine .inl ⟨_, _, DleAll_refl _, c_ref3_Majority _, ?_⟩ | refine ⟨_, _, DleAll_refl _, fun _ => c_ref3_Majority _, ?_⟩ | refine ⟨_, _, DleAll_refl _, c_ref3_Majority _, ?_⟩ | refine Exists.intro false ?_ | (refine And.intro ?_ ?_; focus (simp; done)) | fail)
  all_goals (conv => whnf)
  · refine dle_bool ?_
    simp only [h, Bool.not_true, Bool.false_and]
  · rename_i h1
    refine dle_bool ?_
    simp only [h1, h, Bool.not_true, Bool.not_false, Bool.true_and, Bool.false_and]
  · rename_i h1 h2
    refine dle_bool ?_
    simp only [h1, h2, h, Bool.not_true, Bool.not_false, Bool.true_and, Bool.false_and]
  · rename_i h1 h2 h3
    refine dle_bool ?_
    rw [h, cond_true] at hph
    rw [← hph, Bool.and_false, Bool.and_false, Bool.and_false, Bool.and_false]
  · rename_i h1 h2 h3 h4
    refine dle_bool ?_
    simp only [h1, h2, h3, h, Bool.not_true, Bool.not_false, Bool.true_and, Bool.false_and]
  · rename_i h1 h2 h3 h4 h5
    refine dle_bool ?_
    rw [h4, cond_false, h, cond_true] at hph
    simp only [h1, h2, h3, h5, Bool.not_false, Bool.true_and]
    rw [← hph, List.length_map, List.length_map]
  · rename_i h1 h2 h3 h4 h5
    refine dle_bool ?_
    rw [h4, cond_false, h, cond_false] at hph
    simp only [h1, h2, h3, h5, Bool.not_false, Bool.true_and]
    rw [← hph, List.length_map, List.length_map, List.length_map, List.length_map]
end Go.Proofs.Ytmbniilpgbjcfaa

set_option linter.unusedSimpArgs false
set_option linter.unusedVariables false
set_option maxRecDepth 100000
namespace Go.Proofs.Ytmbniilpgbjcfaa
open Go.Lift
/-! the agreement: what is the same, what wakes up -/
theorem c_ref8_Same (l : List Bal) (hl : l.length ≤ maxLen) (hc : ∀ r ∈ l, r.cut.length ≤ maxLen) : Ret Try.prog 35 [.lst 2 (l.map balE) false, .lst 2 (l.map balE) false] (.v (.bool true)) := by
  have hl' : l.length ≤ 9223372036854775807 := hl
  refine ret_of_body (fn := Try.f35) (c := Try.f35.body.getD .skip) hm hT (by kernel_rfl) Try.func35 (by kernel_rfl) (by kernel_rfl) (by kernel_rfl) (by kernel_rfl) ?_
  repeat' ((conv => whnf); first | refine And.intro (fun h => h) ?_ | refine dcond_t (by assumption) ?_ | refine dcond_f (by assumption) ?_ | (refine dcond_intro ?_ ?_ <;> intro h) | exact .refl | refine And.intro (by kernel_rfl) ?_ | refine And.intro ⟨fun h => h, fun h => h⟩ ?_ | refine Exists.intro false ?_ | (refine And.intro ?_ ?_; focus (simp; done)) | fail)
  · exfalso
    simp at h
  · refine ⟨Nat, fun i => ⟨[(0, .lst 2 (l.map balE) false), (1, .lst 2 (l.map balE) false), (5, i64 i)], []⟩, fun i => i ≤ l.length, fun i => l.length - i, [], ⟨0, Nat.zero_le _, ?_⟩, ?_⟩
    · exact ⟨by repeat' ((conv => whnf); first | exact trivial | refine And.intro (by (conv => arg 1; whnf); first | (with_reducible exact .refl) | exact dle_int (wrap_succ (by omega)) | exact .refl) ?_), by repeat' ((conv => whnf); first | exact trivial | refine And.intro ?_ ?_ | exact .refl), rfl⟩
    · intro i hi
      repeat' ((conv => whnf); first | refine And.intro (fun h => h) ?_ | refine dcond_t (by assumption) ?_ | refine dcond_f (by assumption) ?_ | (refine dcond_intro ?_ ?_ <;> intro h) | exact .refl | refine And.intro (by kernel_rfl) ?_ | refine And.intro ⟨fun h => h, fun h => h⟩ ?_ | refine Exists.intro false ?_ | (refine And.intro ?_ ?_; focus (simp; done)) | fail)
      · have hlt : i < l.length := by simpa using h
        clear h
        have e := c_ref1_SameInts (l[i].cut) (l[i].cut) (hc _ (List.getElem_mem hlt))
        rw [sameI_refl] at e
        repeat' ((conv => whnf); first | refine And.intro (fun h => h) ?_ | refine dcond_t (by assumption) ?_ | refine dcond_f (by assumption) ?_ | (refine dcond_intro ?_ ?_ <;> intro h) | exact .refl | refine And.intro (by kernel_rfl) ?_ | refine And.intro ⟨fun h => h, fun h => h⟩ ?_ | refine ⟨_, _, And.intro ⟨rfl, get_map hlt⟩ ?_⟩ | refine .inl ⟨_, _, DleAll_refl _, e, ?_⟩ | refine ⟨_, _, DleAll_refl _, fun _ => e, ?_⟩ | refine ⟨_, _, DleAll_refl _, e, ?_⟩ | refine ⟨i, balE (l[i]'hlt), And.intro ⟨⟨fun h => h, fun h => h⟩, fun hg => ⟨rfl, get_map hlt⟩⟩ ?_⟩ | refine Exists.intro false ?_ | (refine And.intro ?_ ?_; focus (simp; done)) | fail)
        all_goals (conv => whnf)
        · exfalso
          simp at h
        · refine ⟨i + 1, hlt, by simp only []; omega, ?_⟩
          exact ⟨by repeat' ((conv => whnf); first | exact trivial | refine And.intro (by (conv => arg 1; whnf); first | (with_reducible exact .refl) | exact dle_int (wrap_succ (by omega)) | exact .refl) ?_), by repeat' ((conv => whnf); first | exact trivial | refine And.intro ?_ ?_ | exact .refl), rfl⟩
theorem c_ref3_Same (a b : View) (ha : a.mem.length ≤ maxLen) : Ret Try.prog 32 [.agg (viewE a), .agg (viewE b)] (.v (.bool (decide (a.num = b.num) && sameI a.mem b.mem))) := by
  refine ret_of_body (fn := Try.f32) (c := Try.f32.body.getD .skip) hm hT (by kernel_rfl) Try.func32 (by kernel_rfl) (by kernel_rfl) (by kernel_rfl) (by kernel_rfl) ?_
  repeat' ((conv => whnf); first | refine And.intro (fun h => h) ?_ | refine dcond_t (by assumption) ?_ | refine dcond_f (by assumption) ?_ | (refine dcond_intro ?_ ?_ <;> intro h) | exact .refl | refine And.intro (by kernel_rfl) ?_ | refine And.intro ⟨fun h => h, fun h => h⟩ ?_ | refine .inl ⟨_, _, DleAll_refl _, c_ref1_SameInts _ _ ha, ?_⟩ | refine ⟨_, _, DleAll_refl _, fun _ => c_ref1_SameInts _ _ ha, ?_⟩ | refine ⟨_, _, DleAll_refl _, c_ref1_SameInts _ _ ha, ?_⟩ | refine Exists.intro false ?_ | (refine And.intro ?_ ?_; focus (simp; done)) | fail)
set_option maxHeartbeats 4000000 in
theorem c_ref10_Same (s : Agr) (hs : SmA s) : Ret Try.prog 11 [.agg (agrE s), .agg (agrE s)] (.v (.bool true)) := by
  have e1 := c_ref3_Same s.view s.view (mx hs.mem)
  have e2 := c_ref9_Same s.acc s.acc (mx hs.acut)
  have e3 := c_ref1_SameInts s.prop s.prop (mx hs.prop)
  have e4 := c_ref8_Same s.box (mx hs.box) (fun b hb => mx (hs.boxc b hb))
  have e5 := c_ref9_SameReports s.reps (mx hs.reps) (fun b hb => mx (hs.repc b hb))
  have e6 := c_ref1_SameInts s.cho s.cho (mx hs.cho)
  have e7 := c_ref9_SameReports s.accs (mx hs.accs) (fun b hb => mx (hs.accc b hb))
  have e8 := c_ref1_SameInts s.dec s.dec (mx hs.dec)
  refine ret_of_body (fn := Try.f11) (c := Try.f11.body.getD .skip) hm hT (by kernel_rfl) Try.func11 (by kernel_rfl) (by kernel_rfl) (by kernel_rfl) (by kernel_rfl) ?_
  repeat' ((conv => whnf); first | refine And.intro (fun h => h) ?_ | refine dcond_t (by assumption) ?_ | refine dcond_f (by assumption) ?_ | (refine dcond_intro ?_ ?_ <;> intro h) | exact .refl | refine And.intro (by kernel_rfl) ?_ | refine And.intro ⟨fun h => h, fun h => h⟩ ?_ | refine .inl ⟨_, _, DleAll_refl _, e1, ?_⟩ | refine ⟨_, _, DleAll_refl _, fun _ => e1, ?_⟩ | refine ⟨_, _, DleAll_refl _, e1, ?_⟩ | refine .inl ⟨_, _, DleAll_refl _, e2, ?_⟩ | refine ⟨_, _, DleAll_refl _, fun _ => e2, ?_⟩ | refine ⟨_, _, DleAll_refl _, e2, ?_⟩ | refine .inl ⟨_, _, DleAll_refl _, e3, ?_⟩ | refine ⟨_, _, DleAll_refl _, fun _ => e3, ?_⟩ | refine ⟨_, _, DleAll_refl _, e3, ?_⟩ | refine .inl ⟨_, _, DleAll_refl _, e4, ?_⟩ | refine ⟨_, _, DleAll_refl _, fun _ => e4, ?_⟩ | refine ⟨_, _, DleAll_refl _, e4, ?_⟩ | refine .inl ⟨_, _, DleAll_refl _, e5, ?_⟩ | refine ⟨_, _, DleAll_refl _, fun _ => e5, ?_⟩ | refine ⟨_, _, DleAll_refl _, e5, ?_⟩ | refine .inl ⟨_, _, DleAll_refl _, e6, ?_⟩ | refine ⟨_, _, DleAll_refl _, fun _ => e6, ?_⟩ | refine ⟨_, _, DleAll_refl _, e6, ?_⟩ | refine .inl ⟨_, _, DleAll_refl _, e7, ?_⟩ | refine ⟨_, _, DleAll_refl _, fun _ => e7, ?_⟩ | refine ⟨_, _, DleAll_refl _, e7, ?_⟩ | refine .inl ⟨_, _, DleAll_refl _, e8, ?_⟩ | refine ⟨_, _, DleAll_refl _, fun _ => e8, ?_⟩ | refine ⟨_, _, DleAll_refl _, e8, ?_⟩ | refine Exists.intro false ?_ | (refine And.intro ?_ ?_; focus (simp; done)) | fail)
  all_goals (conv => whnf)
  all_goals (refine dle_bool ?_)
  all_goals simp [sameA, sameI_refl]
def vwA : View := ⟨0, [1, 2]⟩
def sA1 : Agr := ⟨1, vwA, ⟨0, -1, []⟩, [], [], 0, 0, [], [], [], [], 0⟩
def sA2 : Agr := ⟨1, vwA, ⟨0, 0, [7]⟩, [7], [⟨1, [7]⟩], 0, 0, [], [], [], [], 0⟩
def pA1 : Pkt := ⟨0, ⟨1, 0, 1, 0, 0, [7]⟩⟩
def tA1 : Agr := ⟨2, vwA, ⟨0, -1, []⟩, [], [], 0, 0, [], [], [], [], 0⟩
def tA2 : Agr := ⟨2, vwA, ⟨0, 0, [7]⟩, [7], [⟨2, [7]⟩], 0, 0, [], [], [], [], 0⟩
def qA1 : Pkt := ⟨0, ⟨1, 0, 2, 0, 0, [7]⟩⟩
def tA3 : Agr := ⟨2, vwA, ⟨0, 0, [7]⟩, [7], [⟨1, [7]⟩, ⟨2, [7]⟩], 0, 0, [], [], [], [7], 0⟩
def rA1 : Pkt := ⟨0, ⟨6, 0, 2, 0, 0, [7]⟩⟩
def wwA : View := ⟨0, [3]⟩
def oA1 : Agr := ⟨3, wwA, ⟨0, -1, []⟩, [], [], 0, 0, [], [], [], [], 0⟩
def oA2 : Agr := ⟨3, wwA, ⟨0, 0, [4]⟩, [4], [⟨3, [4]⟩], 0, 0, [], [], [], [4], 0⟩
def oP1 : Pkt := ⟨0, ⟨1, 0, 3, 0, 0, [4]⟩⟩
def oP2 : Pkt := ⟨0, ⟨6, 0, 3, 0, 0, [4]⟩⟩
theorem smEx {s : Agr} (h1 : s.view.mem.length ≤ 1000) (h2 : s.acc.cut.length ≤ 1000) (h3 : s.prop.length ≤ 1000) (h4 : s.box.length ≤ 1000) (h5 : ∀ b ∈ s.box, b.cut.length ≤ 1000) (h6 : s.reps = []) (h7 : s.cho.length ≤ 1000) (h8 : s.accs = []) (h9 : s.dec.length ≤ 1000) : SmA s :=
  ⟨h1, h2, h3, h4, h5, (by rw [h6]; exact Nat.zero_le _), (fun b hb => by rw [h6] at hb; cases hb), h7, (by rw [h8]; exact Nat.zero_le _), (fun b hb => by rw [h8] at hb; cases hb), h9⟩
set_option maxHeartbeats 8000000 in
theorem c_law10_awake : Ret Try.prog 7 [] (.v (.bool true)) := by
  have e1 : Ret Try.prog 9 [.agg (viewE vwA), i64 1] (.tup [.agg (agrE sA1), i64 0]) := by
    have := c_agreement_New vwA (by decide) 1
    rw [show newA vwA 1 = (sA1, 0) by kernel_rfl] at this
    exact this
  have e2 : Ret Try.prog 9 [.agg (viewE vwA), i64 2] (.tup [.agg (agrE tA1), i64 0]) := by
    have := c_agreement_New vwA (by decide) 2
    rw [show newA vwA 2 = (tA1, 0) by kernel_rfl] at this
    exact this
  have e3 : Ret Try.prog 9 [.agg (viewE wwA), i64 3] (.tup [.agg (agrE oA1), i64 0]) := by
    have := c_agreement_New wwA (by decide) 3
    rw [show newA wwA 3 = (oA1, 0) by kernel_rfl] at this
    exact this
  have e4 : Ret Try.prog 16 [.agg (agrE sA1), .lst 1 (([7] : List Int).map intE) false] (.tup [.agg (agrE sA2), .lst 7 ([pA1].map pktE) false, i64 0]) := by
    have := c_agreement_Propose sA1 (smEx (by decide) (by decide) (by decide) (by decide) (fun b hb => by cases hb) rfl (by decide) rfl (by decide)) [7] (by decide)
    rw [show propA sA1 [7] = (sA2, [pA1], 0) by kernel_rfl] at this
    exact this
  have e5 : Ret Try.prog 16 [.agg (agrE tA1), .lst 1 (([7] : List Int).map intE) false] (.tup [.agg (agrE tA2), .lst 7 ([qA1].map pktE) false, i64 0]) := by
    have := c_agreement_Propose tA1 (smEx (by decide) (by decide) (by decide) (by decide) (fun b hb => by cases hb) rfl (by decide) rfl (by decide)) [7] (by decide)
    rw [show propA tA1 [7] = (tA2, [qA1], 0) by kernel_rfl] at this
    exact this
  have e6 : Ret Try.prog 16 [.agg (agrE oA1), .lst 1 (([4] : List Int).map intE) false] (.tup [.agg (agrE oA2), .lst 7 ([oP1, oP2].map pktE) false, i64 0]) := by
    have := c_agreement_Propose oA1 (smEx (by decide) (by decide) (by decide) (by decide) (fun b hb => by cases hb) rfl (by decide) rfl (by decide)) [4] (by decide)
    rw [show propA oA1 [4] = (oA2, [oP1, oP2], 0) by kernel_rfl] at this
    exact this
  have e7 : Ret Try.prog 17 [.agg (agrE tA2), .agg (msgE pA1.m)] (.tup [.agg (agrE tA3), .lst 7 ([rA1].map pktE) false, i64 0]) := by
    have := c_Receive_vote tA2 (smEx (by decide) (by decide) (by decide) (by decide) (fun b hb => by
      rcases List.mem_singleton.1 hb with rfl
      decide) rfl (by decide) rfl (by decide)) pA1.m (by decide) (by kernel_rfl) rfl (by kernel_rfl) (by decide) rfl rfl
    rw [show endA (voteA tA2 pA1.m) [] = (tA3, [rA1]) by kernel_rfl] at this
    exact this
  refine ret_of_body (fn := Try.f7) (c := Try.f7.body.getD .skip) hm hT (by kernel_rfl) Try.func7 (by kernel_rfl) (by kernel_rfl) (by kernel_rfl) (by kernel_rfl) ?_
  repeat' ((conv => whnf); first | refine And.intro (fun h => h) ?_ | refine dcond_t (by assumption) ?_ | refine dcond_f (by assumption) ?_ | (refine dcond_intro ?_ ?_ <;> intro h) | exact .refl | refine And.intro (by kernel_rfl) ?_ | refine And.intro ⟨fun h => h, fun h => h⟩ ?_ | refine .inl ⟨_, _, DleAll_refl _, e1, ?_⟩ | refine ⟨_, _, DleAll_refl _, fun _ => e1, ?_⟩ | refine ⟨_, _, DleAll_refl _, e1, ?_⟩ | refine .inl ⟨_, _, DleAll_refl _, e2, ?_⟩ | refine ⟨_, _, DleAll_refl _, fun _ => e2, ?_⟩ | refine ⟨_, _, DleAll_refl _, e2, ?_⟩ | refine .inl ⟨_, _, DleAll_refl _, e3, ?_⟩ | refine ⟨_, _, DleAll_refl _, fun _ => e3, ?_⟩ | refine ⟨_, _, DleAll_refl _, e3, ?_⟩ | refine .inl ⟨_, _, DleAll_refl _, e4, ?_⟩ | refine ⟨_, _, DleAll_refl _, fun _ => e4, ?_⟩ | refine ⟨_, _, DleAll_refl _, e4, ?_⟩ | refine .inl ⟨_, _, DleAll_refl _, e5, ?_⟩ | refine ⟨_, _, DleAll_refl _, fun _ => e5, ?_⟩ | refine ⟨_, _, DleAll_refl _, e5, ?_⟩ | refine .inl ⟨_, _, DleAll_refl _, e6, ?_⟩ | refine ⟨_, _, DleAll_refl _, fun _ => e6, ?_⟩ | refine ⟨_, _, DleAll_refl _, e6, ?_⟩ | refine .inl ⟨_, _, DleAll_refl _, e7, ?_⟩ | refine ⟨_, _, DleAll_refl _, fun _ => e7, ?_⟩ | refine ⟨_, _, DleAll_refl _, e7, ?_⟩ | refine ⟨0, pktE pA1, And.intro ⟨fun h => h, fun _ => ⟨rfl, rfl⟩⟩ ?_⟩ | refine ⟨0, pktE pA1, And.intro ⟨rfl, rfl⟩ ?_⟩ | refine ⟨0, intE 7, And.intro ⟨fun h => h, fun _ => ⟨rfl, rfl⟩⟩ ?_⟩ | refine ⟨0, intE 7, And.intro ⟨rfl, rfl⟩ ?_⟩ | refine ⟨0, pktE rA1, And.intro ⟨fun h => h, fun _ => ⟨rfl, rfl⟩⟩ ?_⟩ | refine ⟨0, pktE rA1, And.intro ⟨rfl, rfl⟩ ?_⟩ | refine Exists.intro false ?_ | (refine And.intro ?_ ?_; focus (simp; done)) | fail)
end Go.Proofs.Ytmbniilpgbjcfaa

set_option linter.unusedSimpArgs false
set_option linter.unusedVariables false
set_option maxRecDepth 100000
namespace Go.Proofs.Ytmbniilpgbjcfaa
open Go.Lift
/-! the agreement, plainly: ticks and proposals -/
theorem good_len {v : View} {c : List Int} (h : goodB v c = true) : c.length ≤ 32 := by
  rcases good_iff.1 h with rfl | h
  · exact Nat.zero_le _
  · have := (ids_ne (app_ids (of_decide_eq_true h))).2
    omega
theorem rpt_len {v : View} {r : Rpt} (h : vrB v r = true) : r.cut.length ≤ 32 := by
  rcases vr_cut h with h | h
  · rw [h.2]
    exact Nat.zero_le _
  · exact good_len (good_iff.2 (.inr h.2))
theorem sm_aw {s : Agr} (h : AW s) : SmA s := by
  have hn := view_n h.v
  have hr := reps_16 h.reps
  have ha := reps_16 h.accs
  have hb := box_le h.box
  refine ⟨by omega, by have := good_len h.acut; omega, by have := good_len h.prop; omega, by omega, fun b hb2 => ?_, by omega, fun r hr2 => ?_, by have := good_len h.cho; omega, by omega, fun r hr2 => ?_, by have := good_len h.dec; omega⟩
  · have := good_len (good_iff.2 (.inr (((box_iff h.v).1 h.box).1 b hb2).2))
    omega
  · have := rpt_len (((reps_iff h.v).1 h.reps).1 r hr2)
    omega
  · have := rpt_len (((reps_iff h.v).1 h.accs).1 r hr2)
    omega
theorem nice_rsd {s : Agr} (h : AW s) : ∀ p ∈ rsdA s, PkOk s p := by
  intro p hp
  unfold rsdA at hp
  rw [List.mem_append, List.mem_append] at hp
  rcases hp with (hp | hp) | hp
  · unfold sndV at hp
    cases hc : (cutOf s.box s.self).2
    · rw [hc] at hp
      cases hp
    · rw [hc] at hp
      simp only [cond_true, List.mem_singleton] at hp
      subst hp
      obtain ⟨b, hb, _, he⟩ := cut_some hc
      rw [← he]
      exact pk_vote h (((box_iff h.v).1 h.box).1 b hb).2
  · unfold sndP at hp
    cases h1 : decide (s.phase = 1)
    · cases h2 : decide (s.phase = 2)
      · rw [h1, h2] at hp
        cases hp
      · rw [h1, h2] at hp
        simp only [cond_true, cond_false, List.mem_singleton] at hp
        subst hp
        have h2 := of_decide_eq_true h2
        rcases h.ph with h0 | ⟨h0 | h0, h7⟩
        · omega
        · omega
        · exact pk_accept h h7.1 (good_app h.cho h0.2)
    · rw [h1] at hp
      simp only [cond_true, List.mem_singleton] at hp
      subst hp
      have h1 := of_decide_eq_true h1
      rcases h.ph with h0 | ⟨h0 | h0, h7⟩
      · omega
      · exact pk_prepare h h7.1
      · omega
  · unfold sndA at hp
    cases hb : decide (0 ≤ ofB s.accs s.self) && !decide (s.phase = 2)
    · rw [hb] at hp
      cases hp
    · rw [hb] at hp
      simp only [cond_true, List.mem_singleton] at hp
      subst hp
      obtain ⟨_, hk⟩ := ofr_ix ((Bool.and_eq_true ..).mp hb).1
      have hm : s.accs.getD (ofB s.accs s.self).toNat rpt0 ∈ s.accs := by simp [hk]
      generalize s.accs.getD (ofB s.accs s.self).toNat rpt0 = r at *
      have ha := h.apr r hm
      refine pk_accepted h ha.2 ?_
      rcases vr_cut (((reps_iff h.v).1 h.accs).1 r hm) with h4 | h4
      · omega
      · exact h4.2
theorem rank_own {a m : Int} (h : rankOf a m ≠ 0) : 1 ≤ a ∧ a ≤ 1048575 ∧ rankOf a m = 1024 * a + m ∧ ownerOf (rankOf a m) = m ∧ 1 ≤ m ∧ m ≤ 1000 := by
  by_cases hc : 1 ≤ a ∧ a ≤ 1048575 ∧ 1 ≤ m ∧ m ≤ 1000
  · have e := rankOf_in hc.1 hc.2.1 hc.2.2.1 hc.2.2.2
    refine ⟨hc.1, hc.2.1, e, ?_, hc.2.2.1, hc.2.2.2⟩
    rw [e, owner_in (by omega) (by omega) (by omega)]
    omega
  · exact absurd (rankOf_out hc) h
theorem att_own {s : Agr} (h : AW s) (hn : attRank s ≠ 0) : properB s.view (attRank s) = true ∧ ownerOf (attRank s) = s.self := by
  unfold attRank at hn ⊢
  obtain ⟨_, _, _, h4, h5, _⟩ := rank_own hn
  refine ⟨?_, h4⟩
  unfold properB
  rw [h4, h.self, decide_eq_false (by omega)]
  rfl
theorem rep_own {s : Agr} (h : AW s) : vrB s.view ⟨s.self, s.acc.rank, s.acc.cut⟩ = true := by
  simp only [vrB, h.self, Bool.true_and, Bool.or_eq_true, Bool.and_eq_true, decide_eq_true_eq]
  rcases acc_cut h with ⟨h1, h2⟩ | ⟨h1, h2⟩
  · left
    rw [h2]
    exact ⟨h1, rfl⟩
  · right
    refine ⟨?_, of_decide_eq_true h2⟩
    rcases h1 with h1 | h1
    · exact .inl h1
    · exact .inr (proper_use h1).1
theorem reps_one {v : View} (hv : viewB v = true) {r : Rpt} (h : vrB v r = true) : repsB v [r] = true :=
  (reps_iff hv).2 ⟨fun x hx => by rw [List.mem_singleton.1 hx]; exact h, List.pairwise_singleton ..⟩
/-- the state with which an attempt starts -/
def attS (s : Agr) : Agr := { s with acc := ⟨attRank s, s.acc.rank, s.acc.cut⟩, wait := 0, rank := attRank s, phase := 1, cho := [], reps := [⟨s.self, s.acc.rank, s.acc.cut⟩] }
theorem aw_att {s : Agr} (h : AW s) (hp : s.prop ≠ []) (hr : properB s.view (attRank s) = true) (ho : ownerOf (attRank s) = s.self) (hle : s.acc.pro ≤ attRank s) : AW (attS s) := by
  have h1 := aw_prep h hr hle
  have hpos := use_pos (proper_use hr).1
  refine ⟨h.v, h.self, Int.le_refl _, (by show (0 : Int) ≤ _; omega), h1.acc, h1.pro, h1.rk, h1.acut, h.prop, good_iff.2 (.inl rfl), h.dec, h.box, h.own, reps_one h.v (rep_own h), fun r hr2 h0 => ?_, h.accs, h.apr, fun _ => ⟨hr, ho⟩, .inr ⟨.inl ⟨rfl, rfl⟩, ?_, hp, ofb_iff.2 ⟨_, List.mem_singleton.2 rfl, rfl⟩⟩⟩
  · rcases List.mem_singleton.1 hr2 with rfl
    exact h.rk h0
  · show attRank s ≠ 0
    omega
theorem att_cases {s : Agr} (h : AW s) : attA s = s ∨ (properB s.view (attRank s) = true ∧ ownerOf (attRank s) = s.self ∧ s.acc.pro ≤ attRank s ∧ attA s = advA (attS s)) := by
  unfold attA
  cases h0 : decide (attRank s = 0)
  · cases ho : (prepR s.acc (attRank s)).2.2
    · exact .inl rfl
    · obtain ⟨h1, h2⟩ := att_own h (of_decide_eq_false h0)
      obtain ⟨_, hle, e1, e2⟩ := prep_ok h.acc ho
      right
      refine ⟨h1, h2, hle, ?_⟩
      rw [e1, e2]
      rfl
  · exact .inl rfl
theorem ok_att {s : Agr} (h : AW s) (hf : few s) (hp : s.prop ≠ []) : AW (attA s) ∧ few (attA s) ∧ (attA s).view = s.view ∧ (attA s).self = s.self := by
  rcases att_cases h with e | ⟨h1, h2, h3, e⟩
  · rw [e]
    exact ⟨h, hf, rfl, rfl⟩
  · rw [e]
    obtain ⟨a1, a2, a3, a4, _⟩ := ok_adv (aw_att h hp h1 h2 h3)
    exact ⟨a1, a2, a3, a4⟩
theorem wait_in {s : Agr} (h : AW s) : 0 ≤ waitA s ∧ waitA s ≤ 1099511627776 := by
  have h0 := h.w0
  have h1 := h.w1
  unfold waitA
  rw [wrap_i64 (by omega) (by omega)]
  split <;> omega
theorem aw_wait {s : Agr} (h : AW s) {w : Int} (h0 : 0 ≤ w) (h1 : w ≤ 1099511627776) : AW { s with wait := w } :=
  ⟨h.v, h.self, h0, h1, h.acc, h.pro, h.rk, h.acut, h.prop, h.cho, h.dec, h.box, h.own, h.reps, h.rpr, h.accs, h.apr, h.rank, h.ph⟩
theorem ok_step {s : Agr} (h : AW s) (hf : few s) : AW (stepA s) ∧ few (stepA s) ∧ (stepA s).view = s.view ∧ (stepA s).self = s.self := by
  have hw := wait_in h
  have h1 := aw_wait h hw.1 hw.2
  unfold stepA
  by_cases h6 : decide (0 < (s.prop.length : Int)) = true
  · rw [if_pos h6]
    by_cases h7 : dueB s = true
    · rw [if_pos h7]
      exact ok_att h1 hf (len1.1 h6)
    · rw [if_neg h7]
      exact ⟨h1, hf, rfl, rfl⟩
  · rw [if_neg h6]
    exact ⟨h, hf, rfl, rfl⟩
theorem nice_tick {s : Agr} (h : AW s) (hf : few s) : Nice s (tickA s) := by
  have hb : agrB s = true := (agr_iff s).2 ⟨h, hf⟩
  unfold tickA
  rw [if_neg (by rw [hb]; simp)]
  by_cases h5 : decide (0 < (s.dec.length : Int)) = true
  · rw [if_pos h5]
    refine ⟨h, hf, rfl, rfl, fun p hp => ?_⟩
    rcases List.mem_singleton.1 hp with rfl
    exact pk_dec h (good_app h.dec (len1.1 h5))
  · rw [if_neg h5]
    obtain ⟨a1, a2, a3, a4⟩ := ok_step h hf
    refine nice_end (x := (stepA s, rsdA (stepA s))) ⟨a1, a2, a3, a4, fun p hp => ?_⟩
    have := nice_rsd a1 p hp
    exact ⟨by rw [← a3]; exact this.vm, by rw [← a4]; exact this.src, by rw [← a4]; exact this.ne, by rw [← a3]; exact this.to⟩
theorem box_no {s : Agr} (h : AW s) (hp : s.prop = []) : ∀ b ∈ s.box, b.mem ≠ s.self := fun b hb he => by
  have h1 := (own_iff h.v h.box).1 h.own b hb he
  rw [hp] at h1
  exact app_ne (((box_iff h.v).1 h.box).1 b hb).2 h1
/-- a proposal that is taken -/
theorem prop_cases {s : Agr} (h : AW s) (hf : few s) {cut : List Int} (hok : (propA s cut).2.2 = 0) : s.prop = [] ∧ s.dec = [] ∧ appB s.view cut = true ∧
    (((voteR s.acc cut).2 = true ∧ s.acc.pro = 0 ∧ s.acc.rank = -1 ∧ boxB s.view (insB s.box ⟨s.self, cut⟩) = true ∧ ((propA s cut).1, (propA s cut).2.1) = endA { s with prop := cut, wait := 0, acc := ⟨0, 0, cut⟩, box := insB s.box ⟨s.self, cut⟩ } [pktOf s 0 1 0 0 cut]) ∨
     ((voteR s.acc cut).2 = false ∧ ((propA s cut).1, (propA s cut).2.1) = endA { s with prop := cut, wait := 0 } [])) := by
  have hb : agrB s = true := (agr_iff s).2 ⟨h, hf⟩
  unfold propA at hok ⊢
  cases h1 : !agrB s || !appB s.view cut
  · rw [h1, cond_false] at hok
    rw [cond_false]
    simp only [Bool.or_eq_false_iff, Bool.not_eq_false'] at h1
    cases h2 : decide (0 < (s.prop.length : Int)) || decide (0 < (s.dec.length : Int))
    · rw [cond_false]
      rw [Bool.or_eq_false_iff] at h2
      have hp := len1f.1 h2.1
      refine ⟨hp, len1f.1 h2.2, h1.2, ?_⟩
      cases hv : (voteR s.acc cut).2
      · exact .inr ⟨rfl, rfl⟩
      · left
        obtain ⟨v1, v2, v3, v4⟩ := vote_ok h.acc hv
        have hn := box_no h hp
        have hc : castR s.view s.box ⟨s.self, cut⟩ = (insB s.box ⟨s.self, cut⟩, 0) := by
          unfold castR
          have h3 : decide (0 ≤ ofBal s.box s.self) = false := by
            cases h4 : decide (0 ≤ ofBal s.box s.self)
            · rfl
            · obtain ⟨b, hb, he⟩ := ofb_pos h4
              exact absurd he (hn b hb)
          simp only [h.box, h1.2, h.self, h3]
          rfl
        refine ⟨rfl, v1, v2, box_ins h.v h.box h1.2 h.self hn, ?_⟩
        rw [cond_true, hc, v4]
    · rw [h2] at hok
      simp at hok
  · rw [h1] at hok
    simp at hok
theorem nice_prop {s : Agr} (h : AW s) (hf : few s) {cut : List Int} (hok : (propA s cut).2.2 = 0) : Nice s ((propA s cut).1, (propA s cut).2.1) := by
  obtain ⟨hp, hd, hc, hcase⟩ := prop_cases h hf hok
  have h0 : s.phase = 0 ∧ s.reps = [] ∧ s.cho = [] := by
    rcases h.ph with h0 | h0
    · exact h0
    · exact absurd hp h0.2.2.1
  have hn := box_no h hp
  have hf2 : ∀ t : Agr, t.phase = s.phase → few t := fun t ht e => by
    rw [ht] at e
    omega
  rcases hcase with ⟨_, p1, p2, hb, e⟩ | ⟨_, e⟩
  · rw [e]
    have hA : AW { s with prop := cut, wait := 0, acc := ⟨0, 0, cut⟩, box := insB s.box ⟨s.self, cut⟩ } := ⟨h.v, h.self, Int.le_refl _, (by show (0 : Int) ≤ _; omega), (accB_iff _).2 ⟨.inl rfl, Int.le_refl _, .inr ⟨.inl rfl, by simp, app_ids (of_decide_eq_true hc)⟩⟩, (fun e => absurd rfl e), (fun e => absurd e (Int.lt_irrefl _)), good_iff.2 (.inr hc), good_iff.2 (.inr hc), h.cho, h.dec, hb, (own_iff h.v hb).2 (fun b hb2 he => by
      rcases insB_mem hb2 with rfl | hb2
      · rfl
      · exact absurd he (hn b hb2)), h.reps, h.rpr, h.accs, h.apr, h.rank, .inl h0⟩
    refine nice_end (x := ({ s with prop := cut, wait := 0, acc := ⟨0, 0, cut⟩, box := insB s.box ⟨s.self, cut⟩ }, [pktOf s 0 1 0 0 cut])) ⟨hA, hf2 _ rfl, rfl, rfl, fun p hp2 => ?_⟩
    rcases List.mem_singleton.1 hp2 with rfl
    exact pk_vote h hc
  · rw [e]
    have hA : AW { s with prop := cut, wait := 0 } := ⟨h.v, h.self, Int.le_refl _, (by show (0 : Int) ≤ _; omega), h.acc, h.pro, h.rk, h.acut, good_iff.2 (.inr hc), h.cho, h.dec, h.box, (own_iff h.v h.box).2 (fun b hb2 he => absurd he (hn b hb2)), h.reps, h.rpr, h.accs, h.apr, h.rank, .inl h0⟩
    exact nice_end (x := ({ s with prop := cut, wait := 0 }, [])) ⟨hA, hf2 _ rfl, rfl, rfl, by simp⟩
theorem prop_err {s : Agr} {cut : List Int} (hok : (propA s cut).2.2 ≠ 0) : (propA s cut).1 = agr0 ∧ (propA s cut).2.1 = [] := by
  unfold propA at hok ⊢
  cases h1 : !agrB s || !appB s.view cut
  · cases h2 : decide (0 < (s.prop.length : Int)) || decide (0 < (s.dec.length : Int))
    · rw [h1, h2] at hok
      cases hv : (voteR s.acc cut).2 <;> rw [hv] at hok <;> exact absurd rfl hok
    · exact ⟨rfl, rfl⟩
  · exact ⟨rfl, rfl⟩
theorem rec_err {s : Agr} {m : Msg} (hok : (recA s m).2.2 ≠ 0) : (recA s m).1 = agr0 ∧ (recA s m).2.1 = [] := by
  unfold recA at hok ⊢
  split
  · exact ⟨rfl, rfl⟩
  · split
    · exact ⟨rfl, rfl⟩
    · split
      · exact ⟨rfl, rfl⟩
      · rename_i h1 h2 h3
        rw [if_neg h1, if_neg h2, if_neg h3] at hok
        split at hok <;> exact absurd rfl hok
theorem sm_agr0 : SmA agr0 := smEx (Nat.zero_le _) (Nat.zero_le _) (Nat.zero_le _) (Nat.zero_le _) (fun b hb => by cases hb) rfl (Nat.zero_le _) rfl (Nat.zero_le _)
end Go.Proofs.Ytmbniilpgbjcfaa

set_option linter.unusedSimpArgs false
set_option linter.unusedVariables false
set_option maxRecDepth 100000
namespace Go.Proofs.Ytmbniilpgbjcfaa
open Go.Lift
/-! AgreeStates -/
theorem dat_bal {n : Nat} {r : List DV} (h : Dat tt (n + 3) 88 r) : ∃ a : Bal, r = balE a ∧ a.cut.length ≤ maxLen := by
  obtain ⟨p, q, rfl, ⟨np, rfl, _⟩, l, s, rfl, hl, rfl⟩ := h
  obtain ⟨l, rfl, hll⟩ := dat_ints (n := n) hl
  exact ⟨⟨np, l⟩, rfl, hll⟩
theorem dat_bals {n : Nat} {r : List DV} (h : Dat tt (n + 4) 27 r) : ∃ l : List Bal, r = [.lst 2 (l.map balE) false] ∧ l.length ≤ maxLen := by
  obtain ⟨es, rfl, hl, hes⟩ := h
  obtain ⟨d, rfl, hd⟩ := list_data (f := balE) (Q := fun x => x.cut.length ≤ maxLen) (fun r hr => by
    obtain ⟨a, rfl, hh⟩ := dat_bal (n := n) (hes r hr)
    exact ⟨a, rfl, hh⟩)
  exact ⟨d, rfl, by simpa using hl⟩
theorem dat_agr {n : Nat} {r : List DV} (h : Dat tt (n + 5) 30 r) : ∃ s : Agr, r = agrE s ∧ s.view.mem.length ≤ maxLen ∧ s.box.length ≤ maxLen ∧ s.reps.length ≤ maxLen ∧ s.accs.length ≤ maxLen := by
  obtain ⟨_, _, rfl, ⟨a1, rfl, _⟩, _, _, rfl, h2, _, _, rfl, h3, _, _, rfl, h4, _, _, rfl, h5, _, _, rfl, ⟨a6, rfl, _⟩, _, _, rfl, ⟨a7, rfl, _⟩, _, _, rfl, h8, _, _, rfl, h9, _, _, rfl, h10, _, _, rfl, h11, _, _, rfl, ⟨a12, rfl, _⟩, rfl⟩ := h
  obtain ⟨v, rfl, hv⟩ := dat_view (n := n + 1) h2
  obtain ⟨ac, rfl, _⟩ := dat_acc (n := n + 1) h3
  obtain ⟨pr, rfl, _⟩ := dat_ints (n := n + 2) h4
  obtain ⟨bx, rfl, hb⟩ := dat_bals (n := n) h5
  obtain ⟨re, rfl, hr, _⟩ := dat_rpts (n := n) h8
  obtain ⟨ch, rfl, _⟩ := dat_ints (n := n + 2) h9
  obtain ⟨ap, rfl, ha, _⟩ := dat_rpts (n := n) h10
  obtain ⟨de, rfl, _⟩ := dat_ints (n := n + 2) h11
  exact ⟨⟨a1, v, ac, pr, bx, a6, a7, re, ch, ap, de, a12⟩, rfl, hv, hb, hr, ha⟩
theorem dat_msg {n : Nat} {r : List DV} (h : Dat tt (n + 3) 32 r) : ∃ m : Msg, r = msgE m ∧ m.cut.length ≤ maxLen := by
  obtain ⟨_, _, rfl, ⟨a1, rfl, _⟩, _, _, rfl, ⟨a2, rfl, _⟩, _, _, rfl, ⟨a3, rfl, _⟩, _, _, rfl, ⟨a4, rfl, _⟩, _, _, rfl, ⟨a5, rfl, _⟩, _, _, rfl, h6, rfl⟩ := h
  obtain ⟨l, rfl, hl⟩ := dat_ints (n := n) h6
  exact ⟨⟨a1, a2, a3, a4, a5, l⟩, rfl, hl⟩
theorem new_sm {v : View} (hv : v.mem.length ≤ 1000) (self : Int) : SmA (newA v self).1 := by
  unfold newA
  cases !viewB v || !inB v.mem self
  · exact smEx hv (Nat.zero_le _) (Nat.zero_le _) (Nat.zero_le _) (fun b hb => by cases hb) rfl (Nat.zero_le _) rfl (Nat.zero_le _)
  · exact smEx (Nat.zero_le _) (Nat.zero_le _) (Nat.zero_le _) (Nat.zero_le _) (fun b hb => by cases hb) rfl (Nat.zero_le _) rfl (Nat.zero_le _)
set_option maxHeartbeats 8000000 in
theorem r_AgreeStates (s : Agr) (k1 : s.view.mem.length ≤ maxLen) (k2 : s.box.length ≤ maxLen) (k3 : s.reps.length ≤ maxLen) (k4 : s.accs.length ≤ maxLen) (v : View) (self : Int) (m : Msg) :
    Ret Try.prog 3 [.agg (agrE s), .agg (viewE v), i64 self, .agg (msgE m)] (.v (.bool true)) := by
  have e8 := c_law10_Small s k1 k2 k3 k4
  have hsm := @sm_all s
  refine ret_of_body (fn := Try.f3) (c := Try.f3.body.getD .skip) hm hT (by kernel_rfl) Try.func3 (by kernel_rfl) (by kernel_rfl) (by kernel_rfl) (by kernel_rfl) ?_
  repeat' ((conv => whnf); first | refine And.intro (fun h => h) ?_ | refine dcond_t (by assumption) ?_ | refine dcond_f (by assumption) ?_ | (refine dcond_intro ?_ ?_ <;> intro h) | exact .refl | refine And.intro (by kernel_rfl) ?_ | refine And.intro ⟨fun h => h, fun h => h⟩ ?_ | refine .inl ⟨_, _, DleAll_refl _, c_law10_awake, ?_⟩ | refine ⟨_, _, DleAll_refl _, fun _ => c_law10_awake, ?_⟩ | refine ⟨_, _, DleAll_refl _, c_law10_awake, ?_⟩ | refine .inl ⟨_, _, DleAll_refl _, e8, ?_⟩ | refine ⟨_, _, DleAll_refl _, fun _ => e8, ?_⟩ | refine ⟨_, _, DleAll_refl _, e8, ?_⟩ | refine Exists.intro false ?_ | (refine And.intro ?_ ?_; focus (simp; done)) | fail)
  all_goals (conv => whnf)
  simp only [List.length_map, Bool.or_eq_false_iff, Bool.not_eq_false', decide_eq_false_iff_not] at h
  have hs := hsm h.1.1
  have hv : v.mem.length ≤ 1000 := by omega
  have hc : m.cut.length ≤ 1000 := by omega
  clear h hsm e8
  have e9 := c_agreement_New v (by omega) self
  have e10 := c_ref10_New v (by omega) self
  have e11 := c_ref10_Same _ (new_sm hv self)
  have e12 := c_agreement_Valid s hs
  have e13 := c_ref10_Valid s hs
  have e14 := c_agreement_ValidMessage v (by omega) m (by omega)
  have e15 := c_ref10_ValidMessage v (by omega) m (by omega)
  generalize newA v self = N at *
  generalize agrB s = B at *
  generalize vmB v m = M at *
  repeat' ((conv => whnf); first | refine And.intro (fun h => h) ?_ | refine dcond_t (by assumption) ?_ | refine dcond_f (by assumption) ?_ | (refine dcond_intro ?_ ?_ <;> intro h) | exact .refl | refine And.intro (by kernel_rfl) ?_ | refine And.intro ⟨fun h => h, fun h => h⟩ ?_ | refine .inl ⟨_, _, DleAll_refl _, e9, ?_⟩ | refine ⟨_, _, DleAll_refl _, fun _ => e9, ?_⟩ | refine ⟨_, _, DleAll_refl _, e9, ?_⟩ | refine .inl ⟨_, _, DleAll_refl _, e10, ?_⟩ | refine ⟨_, _, DleAll_refl _, fun _ => e10, ?_⟩ | refine ⟨_, _, DleAll_refl _, e10, ?_⟩ | refine .inl ⟨_, _, DleAll_refl _, e11, ?_⟩ | refine ⟨_, _, DleAll_refl _, fun _ => e11, ?_⟩ | refine ⟨_, _, DleAll_refl _, e11, ?_⟩ | refine .inl ⟨_, _, DleAll_refl _, e12, ?_⟩ | refine ⟨_, _, DleAll_refl _, fun _ => e12, ?_⟩ | refine ⟨_, _, DleAll_refl _, e12, ?_⟩ | refine .inl ⟨_, _, DleAll_refl _, e13, ?_⟩ | refine ⟨_, _, DleAll_refl _, fun _ => e13, ?_⟩ | refine ⟨_, _, DleAll_refl _, e13, ?_⟩ | refine .inl ⟨_, _, DleAll_refl _, e14, ?_⟩ | refine ⟨_, _, DleAll_refl _, fun _ => e14, ?_⟩ | refine ⟨_, _, DleAll_refl _, e14, ?_⟩ | refine .inl ⟨_, _, DleAll_refl _, e15, ?_⟩ | refine ⟨_, _, DleAll_refl _, fun _ => e15, ?_⟩ | refine ⟨_, _, DleAll_refl _, e15, ?_⟩ | refine Exists.intro false ?_ | (refine And.intro ?_ ?_; focus (simp; done)) | fail)
  all_goals (conv => whnf)
  all_goals (refine dle_bool ?_)
  all_goals simp
theorem law_AgreeStates (dvs : List DV) (h : DatAll tt 6 [30, 24, 3, 32] dvs) : Ret Try.prog 3 dvs (.v (.bool true)) := by
  obtain ⟨a1, _, rfl, h1, a2, _, rfl, h2, a3, _, rfl, ⟨self, rfl, _⟩, a4, _, rfl, h4, rfl⟩ := h
  obtain ⟨s, rfl, k1, k2, k3, k4⟩ := dat_agr (n := 1) h1
  obtain ⟨v, rfl, hv⟩ := dat_view (n := 3) h2
  obtain ⟨m, rfl, hm⟩ := dat_msg (n := 3) h4
  exact r_AgreeStates s k1 k2 k3 k4 v self m
end Go.Proofs.Ytmbniilpgbjcfaa

set_option linter.unusedSimpArgs false
set_option linter.unusedVariables false
set_option maxRecDepth 100000
namespace Go.Proofs.Ytmbniilpgbjcfaa
open Go.Lift
/-! AgreeClosed -/
theorem allP_fits {n : Nat} (h : n ≤ 1000) : fitsIn tt 48 n := fitsP (by omega)
theorem vm_c2 {v : View} {m : Msg} (h : vmB v m = true) (hk : m.kind = 2) : m.cut.length ≤ 32 := by
  unfold vmB at h
  cases h1 : !viewB v || !inB v.mem m.src || !decide (m.view = v.num)
  · rw [h1, cond_false] at h
    simp [hk] at h
    rw [h.2]
    exact Nat.zero_le _
  · rw [h1] at h
    cases h
theorem vm_cut {v : View} {m : Msg} (h : vmB v m = true) : m.cut.length ≤ 32 := by
  obtain ⟨h1, h2, h3, h4, h5⟩ := vm_body h
  have key : appB v m.cut = true → m.cut.length ≤ 32 := fun h => good_len (good_iff.2 (.inr h))
  rcases vm_kind h with hk | hk | hk | hk | hk | hk
  · exact key (h1 (.inl hk))
  · exact vm_c2 h hk
  · rcases (h3 hk).2.2 with h0 | h0
    · rw [h0.2]
      exact Nat.zero_le _
    · exact key h0.2
  · exact key (h4 hk).2.2
  · exact key (h5 hk).2
  · exact key (h1 (.inr hk))
theorem end_ps (s : Agr) (ps : List Pkt) : (endA s ps).2.length ≤ ps.length + 1 := by
  unfold endA
  cases decide ((s.dec.length : Int) = 0) && decide (0 < ((decR s).length : Int)) <;> simp
theorem prop_ps (s : Agr) (cut : List Int) : (propA s cut).2.1.length ≤ 200 := by
  unfold propA
  have h1 := end_ps { s with prop := cut, wait := 0, acc := (voteR s.acc cut).1, box := (castR s.view s.box ⟨s.self, cut⟩).1 } [pktOf s 0 1 0 0 cut]
  have h2 := end_ps { s with prop := cut, wait := 0 } []
  simp only [List.length_cons, List.length_nil] at h1 h2
  cases !agrB s || !appB s.view cut
  · cases decide (0 < (s.prop.length : Int)) || decide (0 < (s.dec.length : Int))
    · cases (voteR s.acc cut).2
      · exact Nat.le_trans h2 (by decide)
      · exact Nat.le_trans h1 (by decide)
    · exact Nat.zero_le _
  · exact Nat.zero_le _
theorem act_ps (s : Agr) (m : Msg) : (actA s m).2.length ≤ 100 := by
  unfold actA
  split
  · exact Nat.zero_le _
  · split
    · exact prepA_ps s m
    · split
      · exact promA_ps s m
      · split
        · exact acctA_ps s m
        · split
          · exact Nat.zero_le _
          · simp
theorem rec_ps (s : Agr) (m : Msg) : (recA s m).2.1.length ≤ 200 := by
  unfold recA
  split
  · exact Nat.zero_le _
  · split
    · exact Nat.zero_le _
    · split
      · exact Nat.zero_le _
      · split
        · cases decide (m.kind = 6) <;> simp
        · have := end_ps (actA s m).1 (actA s m).2
          have := act_ps s m
          simp only []
          omega
theorem tick_ps (s : Agr) : (tickA s).2.length ≤ 200 := by
  unfold tickA
  split
  · exact Nat.zero_le _
  · split
    · simp
    · have := end_ps (stepA s) (rsdA (stepA s))
      have := rsd_ps (stepA s)
      omega
theorem agr0_bad : agrB agr0 = false := by kernel_rfl
set_option maxHeartbeats 8000000 in
theorem r_AgreeClosed (s : Agr) (k1 : s.view.mem.length ≤ maxLen) (k2 : s.box.length ≤ maxLen) (k3 : s.reps.length ≤ maxLen) (k4 : s.accs.length ≤ maxLen) (cut : List Int) (m : Msg) :
    Ret Try.prog 4 [.agg (agrE s), .lst 1 (cut.map intE) false, .agg (msgE m)] (.v (.bool true)) := by
  have e8 := c_law10_Small s k1 k2 k3 k4
  have hsm := @sm_all s
  have e12 : (!(!smA10 s || decide (60 < ((cut.map intE).length : Int)) || decide (60 < ((m.cut.map intE).length : Int)))) = true → Ret Try.prog 12 [.agg (agrE s)] (.v (.bool (agrB s))) := fun h => c_agreement_Valid s (hsm (by
    cases hS : smA10 s
    · rw [hS] at h
      simp at h
    · rfl))
  have hiff := agr_iff s
  generalize smA10 s = S at *
  generalize agrB s = B at *
  refine ret_of_body (fn := Try.f4) (c := Try.f4.body.getD .skip) hm hT (by kernel_rfl) Try.func4 (by kernel_rfl) (by kernel_rfl) (by kernel_rfl) (by kernel_rfl) ?_
  repeat' ((conv => whnf); first | refine And.intro (fun h => h) ?_ | refine dcond_t (by assumption) ?_ | refine dcond_f (by assumption) ?_ | (refine dcond_intro ?_ ?_ <;> intro h) | exact .refl | refine And.intro (by kernel_rfl) ?_ | refine And.intro ⟨fun h => h, fun h => h⟩ ?_ | refine .inl ⟨_, _, DleAll_refl _, c_law10_awake, ?_⟩ | refine ⟨_, _, DleAll_refl _, fun _ => c_law10_awake, ?_⟩ | refine ⟨_, _, DleAll_refl _, c_law10_awake, ?_⟩ | refine .inl ⟨_, _, DleAll_refl _, e8, ?_⟩ | refine ⟨_, _, DleAll_refl _, fun _ => e8, ?_⟩ | refine ⟨_, _, DleAll_refl _, e8, ?_⟩ | refine ⟨_, _, DleAll_refl _, e12, ?_⟩ | refine Exists.intro false ?_ | (refine And.intro ?_ ?_; focus (simp; done)) | fail)
  all_goals (conv => whnf)
  simp only [List.length_map, Bool.or_eq_false_iff, Bool.not_eq_false', decide_eq_false_iff_not] at h
  obtain ⟨⟨⟨hS, hcl⟩, hml⟩, hB⟩ := h
  obtain ⟨hA, hF⟩ := hiff.1 hB
  have hs := hsm hS
  clear e8 e12 hiff hsm
  have eP := c_agreement_Propose s hs cut (by omega)
  have eR := c_agreement_Receive s hs m (by omega)
  have eT := c_agreement_Tick s hs
  have nP := fun h => @nice_prop s hA hF cut h
  have nR := fun h => @nice_rec s hA hF m h
  have nT := nice_tick hA hF
  have xP := @prop_err s cut
  have xR := @rec_err s m
  have lP := prop_ps s cut
  have lR := rec_ps s m
  have lT := tick_ps s
  generalize propA s cut = X at *
  generalize recA s m = Y at *
  generalize tickA s = Z at *
  have sX : SmA X.1 := by
    by_cases h : X.2.2 = 0
    · exact sm_aw (nP h).1
    · rw [(xP h).1]
      exact sm_agr0
  have sY : SmA Y.1 := by
    by_cases h : Y.2.2 = 0
    · exact sm_aw (nR h).1
    · rw [(xR h).1]
      exact sm_agr0
  have vX : (decide (X.2.2 = 0) && !agrB X.1) = false := by
    by_cases h : X.2.2 = 0
    · rw [(agr_iff X.1).2 ⟨(nP h).1, (nP h).2.1⟩]
      simp
    · rw [decide_eq_false h]
      rfl
  have vY : (decide (Y.2.2 = 0) && !agrB Y.1) = false := by
    by_cases h : Y.2.2 = 0
    · rw [(agr_iff Y.1).2 ⟨(nR h).1, (nR h).2.1⟩]
      simp
    · rw [decide_eq_false h]
      rfl
  have vZ : agrB Z.1 = true := (agr_iff Z.1).2 ⟨nT.1, nT.2.1⟩
  have e1 := c_agreement_Valid X.1 sX
  have e2 := c_agreement_Valid Y.1 sY
  have e3 := c_agreement_Valid Z.1 (sm_aw nT.1)
  rw [vZ] at e3
  generalize agrB X.1 = V1 at *
  generalize agrB Y.1 = V2 at *
  have hall : ∀ p ∈ X.2.1 ++ Y.2.1 ++ Z.2, PkOk s p := fun p hp => by
    rw [List.mem_append, List.mem_append] at hp
    rcases hp with (hp | hp) | hp
    · by_cases h : X.2.2 = 0
      · exact (nP h).2.2.2.2 p hp
      · rw [(xP h).2] at hp
        cases hp
    · by_cases h : Y.2.2 = 0
      · exact (nR h).2.2.2.2 p hp
      · rw [(xR h).2] at hp
        cases hp
    · exact nT.2.2.2.2 p hp
  have hlen : (X.2.1 ++ Y.2.1 ++ Z.2).length ≤ 600 := by
    simp only [List.length_append]
    omega
  clear nP nR nT xP xR
  repeat' ((conv => whnf); first | refine And.intro (fun h => h) ?_ | refine dcond_t (by assumption) ?_ | refine dcond_f (by assumption) ?_ | (refine dcond_intro ?_ ?_ <;> intro h) | exact .refl | refine And.intro (by kernel_rfl) ?_ | refine And.intro ⟨fun h => h, fun h => h⟩ ?_ | refine .inl ⟨_, _, DleAll_refl _, eP, ?_⟩ | refine ⟨_, _, DleAll_refl _, fun _ => eP, ?_⟩ | refine ⟨_, _, DleAll_refl _, eP, ?_⟩ | refine .inl ⟨_, _, DleAll_refl _, eR, ?_⟩ | refine ⟨_, _, DleAll_refl _, fun _ => eR, ?_⟩ | refine ⟨_, _, DleAll_refl _, eR, ?_⟩ | refine .inl ⟨_, _, DleAll_refl _, eT, ?_⟩ | refine ⟨_, _, DleAll_refl _, fun _ => eT, ?_⟩ | refine ⟨_, _, DleAll_refl _, eT, ?_⟩ | refine .inl ⟨_, _, DleAll_refl _, e1, ?_⟩ | refine ⟨_, _, DleAll_refl _, fun _ => e1, ?_⟩ | refine ⟨_, _, DleAll_refl _, e1, ?_⟩ | refine .inl ⟨_, _, DleAll_refl _, e2, ?_⟩ | refine ⟨_, _, DleAll_refl _, fun _ => e2, ?_⟩ | refine ⟨_, _, DleAll_refl _, e2, ?_⟩ | refine .inl ⟨_, _, DleAll_refl _, e3, ?_⟩ | refine ⟨_, _, DleAll_refl _, fun _ => e3, ?_⟩ | refine ⟨_, _, DleAll_refl _, e3, ?_⟩ | refine And.intro (fitsP (by simp only [List.length_append, List.length_map, List.length_replicate] at * <;> omega)) ?_ | refine Exists.intro false ?_ | (refine And.intro ?_ ?_; focus (simp; done)) | fail)
  all_goals (conv => whnf)
  · rw [Bool.or_eq_true, Bool.or_eq_true, vX, vY] at h
    simp at h
  obtain ⟨L, hL⟩ : ∃ L, L = X.2.1 ++ Y.2.1 ++ Z.2 := ⟨_, rfl⟩
  rw [← hL] at hall hlen
  refine ⟨Nat, fun i => ⟨[(3, .lp 0 0), (15, .lst 7 (L.map pktE) false), (16, i64 i)], [.cells 30 (agrE s)]⟩, fun i => i ≤ L.length, fun i => L.length - i, [.shut 15], ⟨0, Nat.zero_le _, ?_⟩, ?_⟩
  · conv => whnf
    refine ⟨⟨.refl, dle_lst ?_, .refl, trivial⟩, ⟨.refl, trivial⟩, by rfl⟩
    rw [hL]
    simp
  · intro i hi
    conv => whnf
    refine dcond_intro ?_ ?_ <;> intro h
    · have hlt : i < L.length := by simpa using h
      clear h
      have hp := hall _ (List.getElem_mem hlt)
      have hg : (L.map pktE)[i]? = some (pktE L[i]) := get_map hlt
      obtain ⟨p, hpe⟩ : ∃ p, p = L[i] := ⟨_, rfl⟩
      rw [← hpe] at hp hg
      have hc : p.m.cut.length ≤ 32 := vm_cut hp.vm
      have hmem := hs.mem
      have e14 := c_agreement_ValidMessage s.view (by omega) p.m (by omega)
      have e19 := c_ref3_Contains s.view.mem (mx hmem) p.to
      rw [hp.vm] at e14
      have hbad : (!decide (p.m.src = s.self) || decide (p.to = s.self) || !decide (p.to = 0) && !inB s.view.mem p.to) = false := by
        rw [decide_eq_true hp.src, decide_eq_false hp.ne]
        rcases hp.to with h | h
        · rw [decide_eq_true h]
          rfl
        · rw [h]
          simp
      generalize inB s.view.mem p.to = B1 at *
      repeat' ((conv => whnf); first | refine And.intro (fun h => h) ?_ | refine dcond_t (by assumption) ?_ | refine dcond_f (by assumption) ?_ | (refine dcond_intro ?_ ?_ <;> intro h) | exact .refl | refine And.intro (by kernel_rfl) ?_ | refine And.intro ⟨fun h => h, fun h => h⟩ ?_ | refine ⟨i, pktE p, And.intro ⟨rfl, hg⟩ ?_⟩ | refine .inl ⟨_, _, DleAll_refl _, e14, ?_⟩ | refine ⟨_, _, DleAll_refl _, fun _ => e14, ?_⟩ | refine ⟨_, _, DleAll_refl _, e14, ?_⟩ | refine .inl ⟨_, _, DleAll_refl _, e19, ?_⟩ | refine ⟨_, _, DleAll_refl _, fun _ => e19, ?_⟩ | refine ⟨_, _, DleAll_refl _, e19, ?_⟩ | refine ⟨i, pktE p, And.intro ⟨⟨fun h => h, fun h => h⟩, fun hx => ⟨rfl, hg⟩⟩ ?_⟩ | refine Exists.intro false ?_ | (refine And.intro ?_ ?_; focus (simp; done)) | fail)
      all_goals (conv => whnf)
      refine ⟨i + 1, hlt, by simp only []; omega, ?_⟩
      conv => whnf
      exact ⟨⟨.refl, .refl, dle_int (wrap_succ (by omega)), trivial⟩, ⟨.refl, trivial⟩, by rfl⟩
    · clear h
      repeat' ((conv => whnf); first | refine And.intro (fun h => h) ?_ | refine dcond_t (by assumption) ?_ | refine dcond_f (by assumption) ?_ | (refine dcond_intro ?_ ?_ <;> intro h) | exact .refl | refine And.intro (by kernel_rfl) ?_ | refine And.intro ⟨fun h => h, fun h => h⟩ ?_ | refine Exists.intro false ?_ | (refine And.intro ?_ ?_; focus (simp; done)) | fail)
theorem law_AgreeClosed (dvs : List DV) (h : DatAll tt 6 [30, 22, 32] dvs) : Ret Try.prog 4 dvs (.v (.bool true)) := by
  obtain ⟨a1, _, rfl, h1, a2, _, rfl, h2, a4, _, rfl, h4, rfl⟩ := h
  obtain ⟨s, rfl, k1, k2, k3, k4⟩ := dat_agr (n := 1) h1
  obtain ⟨l, rfl, hl⟩ := dat_ints (n := 4) h2
  obtain ⟨m, rfl, hm⟩ := dat_msg (n := 3) h4
  exact r_AgreeClosed s k1 k2 k3 k4 l m
end Go.Proofs.Ytmbniilpgbjcfaa
