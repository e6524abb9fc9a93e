/- The laws of this seat, part OwD: contracts of the functions, plain laws. No conditions. -/
import Derived.Test.YtmbniilpgbjcfaaGreatOwC
import Derived.Test.YtmbniilpgbjcfaaGreatOwB
set_option maxRecDepth 100000
namespace Go.Proofs.YtmbniilpgbjcfaaGreat
open Go.Lift
theorem acc_in {v : View} {x : Int} (hv : viewB v = true) (h : inB v.mem x = true) : 1 ≤ x ∧ x ≤ 1000 := view_hi hv h
theorem reps_nil {v : View} (hv : viewB v = true) : repsB v [] = true := (reps_iff hv).2 ⟨by simp, .nil⟩
theorem vr_mk {v : View} {m r : Int} {c : List Int} (h1 : inB v.mem m = true) (h2 : usableB r = true) (h3 : appB v c = true) : vrB v ⟨m, r, c⟩ = true := by
  simp only [vrB, appB, Bool.and_eq_true, Bool.or_eq_true, decide_eq_true_eq] at *
  exact ⟨h1, .inr ⟨.inr h2, h3⟩⟩
theorem vr_cut {v : View} {r : Rpt} (h : vrB v r = true) : (r.rank = -1 ∧ r.cut = []) ∨ (r.rank = 0 ∨ usableB r.rank = true) ∧ appB v r.cut = true := by
  simp only [vrB, appB, Bool.and_eq_true, Bool.or_eq_true, decide_eq_true_eq] at *
  rcases h.2 with h | h
  · exact .inl ⟨h.1, List.length_eq_zero_iff.1 (by omega)⟩
  · exact .inr h
theorem ofb_iff {l : List Rpt} {x : Int} : 0 ≤ ofB l x ↔ ∃ r ∈ l, r.mem = x := by
  constructor
  · intro h
    exact of_pos (decide_eq_true h)
  · rintro ⟨r, hr, he⟩
    cases h : decide (0 ≤ ofB l x)
    · exact absurd he (of_neg h r hr)
    · exact of_decide_eq_true h
theorem ins_sub {l : List Rpt} {r x : Rpt} (hx : x ∈ l) : x ∈ insR l r := by
  unfold insR
  rw [← List.take_append_drop (frontN l r.mem) l, List.mem_append] at hx
  simp only [List.mem_append, List.mem_singleton]
  rcases hx with hx | hx
  · exact .inl (.inl hx)
  · exact .inr hx
theorem add_sub {v : View} {l : List Rpt} {r x : Rpt} (h : repsB v l = true) (hx : x ∈ l) : x ∈ (addR v l r).1 := by
  unfold addR
  cases h2 : repsB v (insR l r)
  · simp [h, hx]
  · simp [h]
    exact ins_sub hx
theorem aw_idle {s : Agr} (h : AW s) : AW (idleA s) :=
  ⟨h.v, h.self, h.w0, h.w1, h.acc, h.pro, h.rk, h.acut, h.prop, good_iff.2 (.inl rfl), h.dec, h.box, h.own, reps_nil h.v, (fun r hr => by cases hr), h.accs, h.apr, h.rank, .inl ⟨rfl, rfl, rfl⟩⟩
theorem few_idle (s : Agr) : few (idleA s) := fun e => by
  have : (0 : Int) = 1 := e
  omega
theorem aw_accs {s : Agr} (h : AW s) {r : Rpt} (hr : vrB s.view r = true) (hp : properB s.view r.rank = true) : AW { s with accs := enterR s.view s.accs r } :=
  ⟨h.v, h.self, h.w0, h.w1, h.acc, h.pro, h.rk, h.acut, h.prop, h.cho, h.dec, h.box, h.own, h.reps, h.rpr, enter_reps h.v h.accs hr, (fun x hx => by
    rcases enter_mem hx with rfl | hx
    · have := use_pos (proper_use hp).1
      exact ⟨by omega, hp⟩
    · exact h.apr x hx), h.rank, h.ph⟩
theorem acc_mk {r : Int} {c : List Int} (h1 : usableB r = true) (h2 : idsB c 32 = true) : accB ⟨r, r, c⟩ = true := by
  have h0 := use_pos h1
  have h3 : ownerOf r ≠ 0 := by simpa [usableB] using h1
  exact (accB_iff _).2 ⟨.inr h3, Int.le_refl _, .inr ⟨.inr h3, by simp only []; omega, h2⟩⟩
theorem aw_acc {s : Agr} (h : AW s) {r : Int} {c : List Int} (hp : properB s.view r = true) (hc : appB s.view c = true) : AW { s with acc := ⟨r, r, c⟩ } :=
  ⟨h.v, h.self, h.w0, h.w1, acc_mk (proper_use hp).1 (app_ids (of_decide_eq_true hc)), fun _ => hp, fun _ => hp, good_iff.2 (.inr hc), h.prop, h.cho, h.dec, h.box, h.own, h.reps, h.rpr, h.accs, h.apr, h.rank, h.ph⟩
theorem acc_prep {a : Acc} (h : accB a = true) {r : Int} (h1 : usableB r = true) (h2 : a.pro ≤ r) : accB ⟨r, a.rank, a.cut⟩ = true := by
  obtain ⟨_, h4, h5⟩ := (accB_iff a).1 h
  exact (accB_iff _).2 ⟨.inr (by simpa [usableB] using h1), by simp only []; omega, h5⟩
theorem aw_prep {s : Agr} (h : AW s) {r : Int} (hp : properB s.view r = true) (hle : s.acc.pro ≤ r) : AW { s with acc := ⟨r, s.acc.rank, s.acc.cut⟩ } :=
  ⟨h.v, h.self, h.w0, h.w1, acc_prep h.acc (proper_use hp).1 hle, fun _ => hp, h.rk, h.acut, h.prop, h.cho, h.dec, h.box, h.own, h.reps, h.rpr, h.accs, h.apr, h.rank, h.ph⟩
theorem adv_cases {s : Agr} (h : AW s) : (few s ∧ advA s = s) ∨
    (s.phase = 1 ∧ gateB s.view s.reps s.prop = false ∧ s.prop ≠ [] ∧ appB s.view (chooseR s.view s.reps s.prop).1 = true ∧ (chooseR s.view s.reps s.prop).2 = true ∧
      (((acceptR s.acc s.rank (chooseR s.view s.reps s.prop).1).2 = true ∧ advA s = { s with cho := (chooseR s.view s.reps s.prop).1, phase := 2, acc := ⟨s.rank, s.rank, (chooseR s.view s.reps s.prop).1⟩, accs := enterR s.view s.accs ⟨s.self, s.rank, (chooseR s.view s.reps s.prop).1⟩ }) ∨
      ((acceptR s.acc s.rank (chooseR s.view s.reps s.prop).1).2 = false ∧ advA s = idleA s))) := by
  unfold advA
  cases hb : !decide (s.phase = 1) || decide ((s.reps.length : Int) < majB s.view.mem.length)
  · simp only [Bool.or_eq_false_iff, Bool.not_eq_false', decide_eq_true_eq, decide_eq_false_iff_not] at hb
    right
    have hpr : s.prop ≠ [] := by
      rcases h.ph with h0 | h0
      · omega
      · exact h0.2.2.1
    have hap := good_app h.prop hpr
    have hg : gateB s.view s.reps s.prop = false := by
      unfold gateB
      rw [h.reps, decide_eq_false hb.2, of_decide_eq_true hap]
      simp
    obtain ⟨c2, c1⟩ := choose_from hg hpr
    refine ⟨hb.1, hg, hpr, ?_, c2, ?_⟩
    · rcases c1 with c1 | ⟨r, hr, h0, c1⟩
      · rw [c1]; exact hap
      · rw [c1]
        rcases vr_cut (((reps_iff h.v).1 h.reps).1 r hr) with h2 | h2
        · omega
        · exact h2.2
    · cases ha : (acceptR s.acc s.rank (chooseR s.view s.reps s.prop).1).2
      · exact .inr ⟨rfl, rfl⟩
      · left
        have := (accept_ok h.acc ha).2.2.2.1
        rw [this]
        exact ⟨rfl, rfl⟩
  · left
    simp only [Bool.or_eq_true, Bool.not_eq_true', decide_eq_false_iff_not, decide_eq_true_eq] at hb
    refine ⟨fun e => ?_, rfl⟩
    rcases hb with hb | hb
    · exact absurd e hb
    · exact hb
theorem ok_adv {s : Agr} (h : AW s) : AW (advA s) ∧ few (advA s) ∧ (advA s).view = s.view ∧ (advA s).self = s.self ∧ (advA s).dec = s.dec ∧ (advA s).rank = s.rank := by
  rcases adv_cases h with ⟨hf, e⟩ | ⟨h1, hg, hpr, hap, _, ⟨ha, e⟩ | ⟨ha, e⟩⟩
  · rw [e]
    exact ⟨h, hf, rfl, rfl, rfl, rfl⟩
  · rw [e]
    have hph := h.ph
    rw [h1] at hph
    have hr0 : s.rank ≠ 0 := by
      rcases hph with h0 | h0
      · omega
      · exact h0.2.1
    have hof : 0 ≤ ofB s.reps s.self := by
      rcases hph with h0 | h0
      · omega
      · exact h0.2.2.2
    obtain ⟨hp, ho⟩ := h.rank hr0
    have h2 := aw_accs (r := ⟨s.self, s.rank, (chooseR s.view s.reps s.prop).1⟩) h (vr_mk h.self (proper_use hp).1 hap) hp
    have h3 := aw_acc h2 hp hap
    exact ⟨⟨h3.v, h3.self, h3.w0, h3.w1, h3.acc, h3.pro, h3.rk, h3.acut, h3.prop, good_iff.2 (.inr hap), h3.dec, h3.box, h3.own, h3.reps, h3.rpr, h3.accs, h3.apr, h3.rank, .inr ⟨.inr ⟨rfl, app_ne hap⟩, hr0, hpr, hof⟩⟩, (fun e => by
      have : (2 : Int) = 1 := e
      omega), rfl, rfl, rfl, rfl⟩
  · rw [e]
    exact ⟨aw_idle h, few_idle s, rfl, rfl, rfl, rfl⟩
structure PkOk (s : Agr) (p : Pkt) : Prop where
  vm : vmB s.view p.m = true
  src : p.m.src = s.self
  ne : p.to ≠ s.self
  to : p.to = 0 ∨ inB s.view.mem p.to = true
theorem vm_mk {v : View} {k self rank last : Int} {c : List Int} (hv : viewB v = true) (hs : inB v.mem self = true)
    (h : (bif decide (k = 1) || decide (k = 6) then decide (rank = 0) && decide (last = 0) && appB v c
  else bif decide (k = 2) then properB v rank && decide (ownerOf rank = self) && decide (last = 0) && decide ((c.length : Int) = 0)
  else bif decide (k = 3) then properB v rank && !decide (rank < last) && (decide (last = -1) && decide ((c.length : Int) = 0) || (decide (last = 0) || properB v last) && appB v c)
  else bif decide (k = 4) then properB v rank && decide (ownerOf rank = self) && decide (last = 0) && appB v c
  else bif decide (k = 5) then properB v rank && decide (last = 0) && appB v c
  else false) = true) : vmB v ⟨k, v.num, self, rank, last, c⟩ = true := by
  unfold vmB
  rw [hv, hs]
  simp only [decide_true, Bool.not_true, Bool.or_self, cond_false]
  exact h
theorem pk_all {s : Agr} (h : AW s) {k rank last : Int} {c : List Int} (hm : vmB s.view ⟨k, s.view.num, s.self, rank, last, c⟩ = true) : PkOk s (pktOf s 0 k rank last c) :=
  ⟨hm, rfl, (by have := acc_in h.v h.self; show (0 : Int) ≠ s.self; omega), .inl rfl⟩
theorem pk_dec {s : Agr} (h : AW s) {c : List Int} (hc : appB s.view c = true) : PkOk s (pktOf s 0 6 0 0 c) :=
  pk_all h (vm_mk h.v h.self (by simp [hc]))
theorem pk_vote {s : Agr} (h : AW s) {c : List Int} (hc : appB s.view c = true) : PkOk s (pktOf s 0 1 0 0 c) :=
  pk_all h (vm_mk h.v h.self (by simp [hc]))
theorem pk_prepare {s : Agr} (h : AW s) (hr : s.rank ≠ 0) : PkOk s (pktOf s 0 2 s.rank 0 []) := by
  obtain ⟨hp, ho⟩ := h.rank hr
  exact pk_all h (vm_mk h.v h.self (by simp [hp, ho]))
theorem pk_accept {s : Agr} (h : AW s) (hr : s.rank ≠ 0) {c : List Int} (hc : appB s.view c = true) : PkOk s (pktOf s 0 4 s.rank 0 c) := by
  obtain ⟨hp, ho⟩ := h.rank hr
  exact pk_all h (vm_mk h.v h.self (by simp [hp, ho, hc]))
theorem pk_accepted {s : Agr} (h : AW s) {r : Int} (hp : properB s.view r = true) {c : List Int} (hc : appB s.view c = true) : PkOk s (pktOf s 0 5 r 0 c) :=
  pk_all h (vm_mk h.v h.self (by simp [hp, hc]))
theorem win_mem {v : View} {l : List Bal} (h : (winR v l).2 = true) : ∃ b ∈ l, b.cut = (winR v l).1 := by
  unfold winR at h ⊢
  cases hb : !boxB v l
  · rw [hb, cond_false] at h
    rw [cond_false]
    cases hf : l.find? (fun b => decide (fastB v.mem.length ≤ (votesN l b.cut : Int))) with
    | none => rw [hf] at h; cases h
    | some b => exact ⟨b, List.mem_of_find?_eq_some hf, rfl⟩
  · rw [hb] at h
    cases h
theorem acc_mem {l : List Rpt} {m : Int} : ∀ i, i ≤ l.length → (accAt l m i).2 = [] ∨ ∃ r ∈ l, r.rank = (accAt l m i).1 ∧ r.cut = (accAt l m i).2 ∧ m ≤ (vA l r l.length : Int)
  | 0, _ => .inl rfl
  | i + 1, hi => by
    unfold accAt
    cases hb : decide (m ≤ (vA l (l.getD i rpt0) l.length : Int)) && decide ((accAt l m i).1 < (l.getD i rpt0).rank)
    · exact acc_mem i (by omega)
    · have hg : l.getD i rpt0 = l[i] := by simp [show i < l.length by omega]
      rw [hg] at hb ⊢
      simp only [Bool.and_eq_true, decide_eq_true_eq] at hb
      exact .inr ⟨l[i], List.getElem_mem (by omega), rfl, rfl, hb.1⟩
theorem dec_app {s : Agr} (h : AW s) (hn : decR s ≠ []) : appB s.view (decR s) = true := by
  unfold decR at hn ⊢
  cases hw : (winR s.view s.box).2
  · rw [hw, cond_false] at hn
    rw [cond_false]
    unfold accdR at hn ⊢
    rcases acc_mem (l := s.accs) (m := majB s.view.mem.length) s.accs.length (Nat.le_refl _) with h1 | ⟨r, hr, h2, h3, _⟩
    · exact absurd h1 hn
    · rw [← h3]
      have hap := h.apr r hr
      rcases vr_cut (((reps_iff h.v).1 h.accs).1 r hr) with h4 | h4
      · omega
      · exact h4.2
  · rw [cond_true]
    obtain ⟨b, hb, he⟩ := win_mem hw
    rw [← he]
    exact (((box_iff h.v).1 h.box).1 b hb).2
theorem ok_end {s : Agr} (h : AW s) (hf : few s) {ps : List Pkt} (hp : ∀ p ∈ ps, PkOk s p) : AW (endA s ps).1 ∧ few (endA s ps).1 ∧ (endA s ps).1.view = s.view ∧ (endA s ps).1.self = s.self ∧ ∀ p ∈ (endA s ps).2, PkOk s p := by
  unfold endA
  cases hb : decide ((s.dec.length : Int) = 0) && decide (0 < ((decR s).length : Int))
  · exact ⟨h, hf, rfl, rfl, hp⟩
  · rw [Bool.and_eq_true] at hb
    have ha := dec_app h (len1.1 hb.2)
    refine ⟨⟨h.v, h.self, h.w0, h.w1, h.acc, h.pro, h.rk, h.acut, h.prop, h.cho, good_iff.2 (.inr ha), h.box, h.own, h.reps, h.rpr, h.accs, h.apr, h.rank, h.ph⟩, hf, rfl, rfl, fun p hp2 => ?_⟩
    simp only [cond_true, List.mem_append, List.mem_singleton] at hp2
    rcases hp2 with hp2 | rfl
    · exact hp p hp2
    · exact pk_dec h ha
end Go.Proofs.YtmbniilpgbjcfaaGreat

set_option maxRecDepth 100000
namespace Go.Proofs.YtmbniilpgbjcfaaGreat
open Go.Lift
def Nice (s : Agr) (x : Agr × List Pkt) : Prop := AW x.1 ∧ few x.1 ∧ x.1.view = s.view ∧ x.1.self = s.self ∧ ∀ p ∈ x.2, PkOk s p
theorem nice_end {s : Agr} {x : Agr × List Pkt} (h : Nice s x) : Nice s (endA x.1 x.2) := by
  obtain ⟨h1, h2, h3, h4, h5⟩ := h
  have h5' : ∀ p ∈ x.2, PkOk x.1 p := fun p hp => by
    have := h5 p hp
    exact ⟨by rw [h3]; exact this.vm, by rw [h4]; exact this.src, by rw [h4]; exact this.ne, by rw [h3]; exact this.to⟩
  obtain ⟨e1, e2, e3, e4, e5⟩ := ok_end h1 h2 h5'
  refine ⟨e1, e2, e3.trans h3, e4.trans h4, fun p hp => ?_⟩
  have := e5 p hp
  exact ⟨by rw [← h3]; exact this.vm, by rw [← h4]; exact this.src, by rw [← h4]; exact this.ne, by rw [← h3]; exact this.to⟩
theorem vm_view {v : View} {m : Msg} (h : vmB v m = true) : inB v.mem m.src = true ∧ m.view = v.num := by
  unfold vmB at h
  cases h1 : !viewB v || !inB v.mem m.src || !decide (m.view = v.num)
  · simp only [Bool.or_eq_false_iff, Bool.not_eq_false', decide_eq_true_eq] at h1
    exact ⟨h1.1.2, h1.2⟩
  · rw [h1] at h
    cases h
theorem vm_body {v : View} {m : Msg} (h : vmB v m = true) : (m.kind = 1 ∨ m.kind = 6 → appB v m.cut = true) ∧ (m.kind = 2 → properB v m.rank = true ∧ ownerOf m.rank = m.src) ∧
    (m.kind = 3 → properB v m.rank = true ∧ m.last ≤ m.rank ∧ (m.last = -1 ∧ m.cut = [] ∨ (m.last = 0 ∨ properB v m.last = true) ∧ appB v m.cut = true)) ∧
    (m.kind = 4 → properB v m.rank = true ∧ ownerOf m.rank = m.src ∧ appB v m.cut = true) ∧ (m.kind = 5 → properB v m.rank = true ∧ appB v m.cut = true) := by
  unfold vmB at h
  cases h1 : !viewB v || !inB v.mem m.src || !decide (m.view = v.num)
  · rw [h1, cond_false] at h
    refine ⟨fun hk => ?_, fun hk => ?_, fun hk => ?_, fun hk => ?_, fun hk => ?_⟩
    · rcases hk with hk | hk <;> simp [hk] at h <;> exact h.2
    · simp [hk] at h
      exact ⟨h.1.1.1, h.1.1.2⟩
    · simp [hk] at h
      refine ⟨h.1.1, h.1.2, ?_⟩
      rcases h.2 with h2 | h2
      · exact .inl h2
      · exact .inr h2
    · simp [hk] at h
      exact ⟨h.1.1.1, h.1.1.2, h.2⟩
    · simp [hk] at h
      exact ⟨h.1.1, h.2⟩
  · rw [h1] at h
    cases h
theorem acc_cut {s : Agr} (h : AW s) : (s.acc.rank = -1 ∧ s.acc.cut = []) ∨ (s.acc.rank = 0 ∨ properB s.view s.acc.rank = true) ∧ appB s.view s.acc.cut = true := by
  rcases ((accB_iff s.acc).1 h.acc).2.2 with h1 | ⟨h1, _, h3⟩
  · exact .inl h1
  · right
    refine ⟨?_, good_app h.acut (ids_ne h3).1⟩
    rcases h1 with h1 | h1
    · exact .inl h1
    · have := owner_low h1
      exact .inr (h.rk (by omega))
theorem nice_prep {s : Agr} (h : AW s) (hf : few s) {m : Msg} (hm : vmB s.view m = true) (hk : m.kind = 2) (hn : m.src ≠ s.self) : Nice s (prepA s m) := by
  obtain ⟨hsrc, _⟩ := vm_view hm
  obtain ⟨hp, _⟩ := (vm_body hm).2.1 hk
  unfold prepA
  have key : ∀ t : Agr, AW t → few t → t.view = s.view → t.self = s.self → ∀ ps : List Pkt, (∀ p ∈ ps, PkOk s p) → Nice s ((bif decide (s.rank < m.rank) && !decide (s.phase = 0) then idleA t else t), ps) := by
    intro t h1 h2 h3 h4 ps hps
    cases decide (s.rank < m.rank) && !decide (s.phase = 0)
    · exact ⟨h1, h2, h3, h4, hps⟩
    · exact ⟨aw_idle h1, few_idle t, h3, h4, hps⟩
  cases ho : (prepR s.acc m.rank).2.2
  · exact key s h hf rfl rfl [] (by simp)
  · obtain ⟨hu, hle, e1, e2⟩ := prep_ok h.acc ho
    rw [e1, e2]
    have hrl := ((accB_iff s.acc).1 h.acc).2.1
    refine key _ (aw_prep h hp hle) hf rfl rfl _ (fun p hp2 => ?_)
    simp only [cond_true, List.mem_singleton] at hp2
    subst hp2
    refine ⟨vm_mk h.v h.self ?_, rfl, hn, .inr hsrc⟩
    simp only [hp, Bool.true_and]
    have h0 : decide (m.rank < s.acc.rank) = false := decide_eq_false (by omega)
    rcases acc_cut h with ⟨h1, h2⟩ | ⟨h1, h2⟩
    · rw [h0, h1, h2]
      rfl
    · rw [h0, h2]
      rcases h1 with h1 | h1
      · rw [h1]
        simp
      · rw [h1]
        simp
theorem nice_prom {s : Agr} (h : AW s) (hf : few s) {m : Msg} (hm : vmB s.view m = true) (hk : m.kind = 3) : Nice s (promA s m) := by
  obtain ⟨hsrc, _⟩ := vm_view hm
  obtain ⟨hp, _, hl⟩ := (vm_body hm).2.2.1 hk
  unfold promA
  cases hb : !decide (s.phase = 1) || !decide (m.rank = s.rank)
  · simp only [Bool.or_eq_false_iff, Bool.not_eq_false', decide_eq_true_eq] at hb
    have hph := h.ph
    rw [hb.1] at hph
    have hph : s.cho = [] ∧ s.rank ≠ 0 ∧ s.prop ≠ [] ∧ 0 ≤ ofB s.reps s.self := by
      rcases hph with h0 | ⟨h0 | h0, h1⟩
      · omega
      · exact ⟨h0.2, h1⟩
      · omega
    have h1 : AW { s with reps := (addR s.view s.reps ⟨m.src, m.last, m.cut⟩).1 } := by
      refine ⟨h.v, h.self, h.w0, h.w1, h.acc, h.pro, h.rk, h.acut, h.prop, h.cho, h.dec, h.box, h.own, add_reps h.reps, fun r hr h0 => ?_, h.accs, h.apr, h.rank, .inr ⟨.inl ⟨hb.1, hph.1⟩, hph.2.1, hph.2.2.1, ?_⟩⟩
      · rcases add_mem hr with rfl | hr
        · rcases hl with hl | hl
          · simp only [] at h0
            omega
          · rcases hl.1 with hl | hl
            · simp only [] at h0
              omega
            · exact hl
        · exact h.rpr r hr h0
      · obtain ⟨r, hr, he⟩ := ofb_iff.1 hph.2.2.2
        exact ofb_iff.2 ⟨r, add_sub h.reps hr, he⟩
    obtain ⟨h2, h3, h4, h5, _, h6⟩ := ok_adv h1
    refine ⟨h2, h3, h4, h5, fun p hp2 => ?_⟩
    simp only [cond_false] at hp2
    generalize advA { s with reps := (addR s.view s.reps ⟨m.src, m.last, m.cut⟩).1 } = A at *
    cases hA : decide (A.phase = 2)
    · rw [hA] at hp2
      cases hp2
    · rw [hA] at hp2
      simp only [cond_true, List.mem_singleton] at hp2
      subst hp2
      have hA := of_decide_eq_true hA
      have hc : A.cho ≠ [] ∧ A.rank ≠ 0 := by
        rcases h2.ph with h0 | ⟨h0 | h0, h7⟩
        · omega
        · omega
        · exact ⟨h0.2, h7.1⟩
      have := pk_accept h2 hc.2 (good_app h2.cho hc.1)
      exact ⟨by rw [← h4]; exact this.vm, by rw [← h5]; exact this.src, by rw [← h5]; exact this.ne, by rw [← h4]; exact this.to⟩
  · exact ⟨h, hf, rfl, rfl, by simp⟩
theorem nice_acct {s : Agr} (h : AW s) (hf : few s) {m : Msg} (hm : vmB s.view m = true) (hk : m.kind = 4) : Nice s (acctA s m) := by
  obtain ⟨hsrc, _⟩ := vm_view hm
  obtain ⟨hp, _, hc⟩ := (vm_body hm).2.2.2.1 hk
  have h1 := aw_accs (r := ⟨m.src, m.rank, m.cut⟩) h (vr_mk hsrc (proper_use hp).1 hc) hp
  unfold acctA
  cases ha : (acceptR s.acc m.rank m.cut).2
  · exact ⟨h1, hf, rfl, rfl, by simp⟩
  · have e := (accept_ok h.acc ha).2.2.2.1
    rw [e]
    have h2 := aw_accs (r := ⟨s.self, m.rank, m.cut⟩) h1 (vr_mk h.self (proper_use hp).1 hc) hp
    have h3 := aw_acc h2 hp hc
    refine ⟨h3, hf, rfl, rfl, fun p hp2 => ?_⟩
    simp only [cond_true, List.mem_singleton] at hp2
    subst hp2
    exact pk_accepted h hp hc
theorem nice_accd {s : Agr} (h : AW s) (hf : few s) {m : Msg} (hm : vmB s.view m = true) (hk : m.kind = 5) : Nice s ({ s with accs := enterR s.view s.accs ⟨m.src, m.rank, m.cut⟩ }, []) := by
  obtain ⟨hsrc, _⟩ := vm_view hm
  obtain ⟨hp, hc⟩ := (vm_body hm).2.2.2.2 hk
  exact ⟨aw_accs h (vr_mk hsrc (proper_use hp).1 hc) hp, hf, rfl, rfl, by simp⟩
theorem nice_deci {s : Agr} (h : AW s) (hf : few s) {m : Msg} (hm : vmB s.view m = true) (hk : m.kind = 6) : Nice s ({ s with dec := m.cut }, [pktOf s 0 6 0 0 m.cut]) := by
  have hc := (vm_body hm).1 (.inr hk)
  refine ⟨⟨h.v, h.self, h.w0, h.w1, h.acc, h.pro, h.rk, h.acut, h.prop, h.cho, good_iff.2 (.inr hc), h.box, h.own, h.reps, h.rpr, h.accs, h.apr, h.rank, h.ph⟩, hf, rfl, rfl, fun p hp => ?_⟩
  simp only [List.mem_singleton] at hp
  subst hp
  exact pk_dec h hc
theorem ofbal_at {l : List Bal} {x : Int} (h : decide (0 ≤ ofBal l x) = true) : (ofBal l x).toNat < l.length ∧ (l.getD (ofBal l x).toNat bal0).mem = x := by
  have h := of_decide_eq_true h
  unfold ofBal at h ⊢
  rcases hf : (List.range l.length).find? (fun i => decide ((l.getD i bal0).mem = x)) with _ | n
  · simp only [findB, hf] at h
    omega
  · have hn : n < l.length := List.mem_range.1 (List.mem_of_find?_eq_some hf)
    have hn2 := List.find?_some hf
    simp only [findB, hf, Int.toNat_natCast]
    exact ⟨hn, of_decide_eq_true hn2⟩
theorem cut_some {l : List Bal} {x : Int} (h : (cutOf l x).2 = true) : ∃ b ∈ l, b.mem = x ∧ b.cut = (cutOf l x).1 := by
  unfold cutOf at h ⊢
  cases hd : decide (0 ≤ ofBal l x)
  · rw [hd] at h
    cases h
  · obtain ⟨h1, h2⟩ := ofbal_at hd
    refine ⟨l.getD (ofBal l x).toNat bal0, ?_, h2, rfl⟩
    simp [h1]
theorem cut_none {l : List Bal} {x : Int} (h : (cutOf l x).2 = false) : ∀ b ∈ l, b.mem ≠ x := by
  unfold cutOf at h
  cases hd : decide (0 ≤ ofBal l x)
  · exact ofb_neg hd
  · rw [hd] at h
    cases h
theorem bal_one {l : List Bal} (hp : List.Pairwise (fun a b : Bal => a.mem < b.mem) l) {a b : Bal} (ha : a ∈ l) (hb : b ∈ l) (he : a.mem = b.mem) : a = b := by
  obtain ⟨i, hi, rfl⟩ := List.getElem_of_mem ha
  obtain ⟨j, hj, rfl⟩ := List.getElem_of_mem hb
  rw [List.pairwise_iff_getElem] at hp
  rcases Nat.lt_trichotomy i j with h | h | h
  · have := hp i j hi hj h
    omega
  · subst h
    rfl
  · have := hp j i hj hi h
    omega
theorem own_iff {v : View} (hv : viewB v = true) {l : List Bal} (hb : boxB v l = true) {x : Int} {c : List Int} : ((cutOf l x).2 = true → (cutOf l x).1 = c) ↔ ∀ b ∈ l, b.mem = x → b.cut = c := by
  constructor
  · intro h b hbm he
    cases hc : (cutOf l x).2
    · exact absurd he (cut_none hc b hbm)
    · obtain ⟨b2, h2, h3, h4⟩ := cut_some hc
      have := bal_one ((box_iff hv).1 hb).2 hbm h2 (he.trans h3.symm)
      rw [this, h4, h hc]
  · intro h hc
    obtain ⟨b2, h2, h3, h4⟩ := cut_some hc
    rw [← h4, h b2 h2 h3]
theorem cast_ok {v : View} {l : List Bal} {b : Bal} (h : (castR v l b).2 = 0) : boxB v l = true ∧ appB v b.cut = true ∧ inB v.mem b.mem = true ∧ (∀ x ∈ l, x.mem ≠ b.mem) ∧ (castR v l b).1 = insB l b := by
  unfold castR at h ⊢
  cases h1 : !boxB v l || !appB v b.cut
  · rw [h1, cond_false] at h
    rw [cond_false]
    simp only [Bool.or_eq_false_iff, Bool.not_eq_false'] at h1
    cases h2 : !inB v.mem b.mem
    · rw [h2, cond_false] at h
      rw [cond_false]
      cases h3 : decide (0 ≤ ofBal l b.mem)
      · exact ⟨h1.1, h1.2, by simpa using h2, ofb_neg h3, rfl⟩
      · rw [h3] at h
        simp at h
    · rw [h2] at h
      simp at h
  · rw [h1] at h
    simp at h
theorem box_ins {v : View} (hv : viewB v = true) {l : List Bal} {b : Bal} (h : boxB v l = true) (hc : appB v b.cut = true) (hi : inB v.mem b.mem = true) (hn : ∀ x ∈ l, x.mem ≠ b.mem) : boxB v (insB l b) = true := by
  obtain ⟨h1, h2⟩ := (box_iff hv).1 h
  refine (box_iff hv).2 ⟨fun x hx => ?_, (insb_pair h2).2 hn⟩
  rcases insB_mem hx with rfl | hx
  · exact ⟨hi, hc⟩
  · exact h1 x hx
theorem aw_box {s : Agr} (h : AW s) {l : List Bal} (hb : boxB s.view l = true) (ho : ∀ b ∈ l, b.mem = s.self → b.cut = s.prop) : AW { s with box := l } :=
  ⟨h.v, h.self, h.w0, h.w1, h.acc, h.pro, h.rk, h.acut, h.prop, h.cho, h.dec, hb, (own_iff h.v hb).2 ho, h.reps, h.rpr, h.accs, h.apr, h.rank, h.ph⟩
theorem nice_vote {s : Agr} (h : AW s) (hf : few s) {m : Msg} (hn : m.src ≠ s.self) : Nice s (voteA s m, []) := by
  unfold voteA
  cases hc : decide ((castR s.view s.box ⟨m.src, m.cut⟩).2 = 0)
  · exact ⟨h, hf, rfl, rfl, by simp⟩
  · obtain ⟨h1, h2, h3, h4, h5⟩ := cast_ok (of_decide_eq_true hc)
    rw [cond_true, h5]
    refine ⟨aw_box h (box_ins h.v h1 h2 h3 h4) (fun b hb he => ?_), hf, rfl, rfl, by simp⟩
    rcases insB_mem hb with rfl | hb
    · exact absurd he hn
    · exact (own_iff h.v h.box).1 h.own b hb he
theorem nice_act {s : Agr} (h : AW s) (hf : few s) {m : Msg} (hm : vmB s.view m = true) (hn : m.src ≠ s.self) : Nice s (actA s m) := by
  unfold actA
  rcases vm_kind hm with hk | hk | hk | hk | hk | hk
  · rw [if_pos hk]; exact nice_vote h hf hn
  · rw [if_neg (by omega), if_pos hk]; exact nice_prep h hf hm hk hn
  · rw [if_neg (by omega), if_neg (by omega), if_pos hk]; exact nice_prom h hf hm hk
  · rw [if_neg (by omega), if_neg (by omega), if_neg (by omega), if_pos hk]; exact nice_acct h hf hm hk
  · rw [if_neg (by omega), if_neg (by omega), if_neg (by omega), if_neg (by omega), if_pos hk]; exact nice_accd h hf hm hk
  · rw [if_neg (by omega), if_neg (by omega), if_neg (by omega), if_neg (by omega), if_neg (by omega)]; exact nice_deci h hf hm hk
theorem nice_rec {s : Agr} (h : AW s) (hf : few s) {m : Msg} (hok : (recA s m).2.2 = 0) : Nice s ((recA s m).1, (recA s m).2.1) := by
  have hb : agrB s = true := (agr_iff s).2 ⟨h, hf⟩
  unfold recA at hok ⊢
  rw [if_neg (by rw [hb]; simp)] at hok ⊢
  by_cases h2 : decide (m.view = s.view.num) = false
  · rw [if_pos h2] at hok
    simp at hok
  rw [if_neg h2] at hok ⊢
  by_cases h3 : (!vmB s.view m || decide (m.src = s.self)) = true
  · rw [if_pos h3] at hok
    simp at hok
  rw [if_neg h3] at hok ⊢
  have h3 : (!vmB s.view m || decide (m.src = s.self)) = false := by simpa using h3
  simp only [Bool.or_eq_false_iff, Bool.not_eq_false', decide_eq_false_iff_not] at h3
  by_cases h5 : decide (0 < (s.dec.length : Int)) = true
  · rw [if_pos h5]
    refine ⟨h, hf, rfl, rfl, fun p hp => ?_⟩
    cases hk : decide (m.kind = 6)
    · simp only [hk, cond_false, List.mem_singleton] at hp
      subst hp
      have hd := good_app h.dec (len1.1 h5)
      exact ⟨vm_mk h.v h.self (by simp [hd]), rfl, h3.2, .inr (vm_view h3.1).1⟩
    · simp only [hk, cond_true] at hp
      cases hp
  rw [if_neg h5]
  exact nice_end (nice_act h hf h3.1 h3.2)
end Go.Proofs.YtmbniilpgbjcfaaGreat

set_option maxRecDepth 100000
namespace Go.Proofs.YtmbniilpgbjcfaaGreat
open Go.Lift
def smallC (l : List Bal) (i : Nat) : Bool := !decide (60 < ((l.getD i bal0).cut.length : Int))
def smallX (v : View) (l : List Bal) : Bool := allB (smallC l) l.length && (decide ((v.mem.length : Int) ≤ 60) && decide ((l.length : Int) ≤ 60))
theorem c_law8_Small (v : View) (hv : v.mem.length ≤ maxLen) (l : List Bal) (hl : l.length ≤ maxLen) : Ret Tryz.prog 15 [.agg (viewE v), .lst 2 (l.map balE) false] (.v (.bool (smallX v l))) := by
  have hl' : l.length ≤ 9223372036854775807 := hl
  refine ret_of_body (fn := Tryz.f15) (c := Tryz.f15.body.getD .skip) hm hT (by kernel_rfl) Tryz.func15 (by kernel_rfl) (by kernel_rfl) (by kernel_rfl) (by kernel_rfl) ?_
  repeat' ((conv => whnf); first | refine And.intro (fun h => h) ?_ | refine dcond_t (by assumption) ?_ | refine dcond_f (by assumption) ?_ | (refine dcond_intro ?_ ?_ <;> intro h) | exact .refl | refine And.intro (by kernel_rfl) ?_ | refine And.intro ⟨fun h => h, fun h => h⟩ ?_ | refine Exists.intro false ?_ | (refine And.intro ?_ ?_; focus (simp; done)) | fail)
  refine ⟨Nat, fun i => ⟨[(1, .lst 2 (l.map balE) false), (2, .lp 0 0), (5, i64 i)], [.cells 24 (viewE v)]⟩, fun i => i ≤ l.length ∧ ∀ j, j < i → smallC l j = true, fun i => l.length - i, [], ⟨0, ⟨Nat.zero_le _, by omega⟩, ?_⟩, ?_⟩
  · exact ⟨by repeat' ((conv => whnf); first | exact trivial | refine And.intro (by (conv => arg 1; whnf); first | (with_reducible exact .refl) | exact dle_int (wrap_succ (by omega)) | exact .refl) ?_), by repeat' ((conv => whnf); first | exact trivial | refine And.intro ?_ ?_ | exact .refl), rfl⟩
  · intro i ⟨hi, hall⟩
    conv => whnf
    refine dcond_intro ?_ ?_ <;> intro h
    · have hlt : i < l.length := by simpa using h
      clear h
      have hg : l.getD i bal0 = l[i] := by simp [hlt]
      repeat' ((conv => whnf); first | refine And.intro (fun h => h) ?_ | refine dcond_t (by assumption) ?_ | refine dcond_f (by assumption) ?_ | (refine dcond_intro ?_ ?_ <;> intro h) | exact .refl | refine And.intro (by kernel_rfl) ?_ | refine And.intro ⟨fun h => h, fun h => h⟩ ?_ | refine ⟨_, _, And.intro ⟨rfl, get_map hlt⟩ ?_⟩ | refine Exists.intro false ?_ | (refine And.intro ?_ ?_; focus (simp; done)) | fail)
      all_goals (conv => whnf)
      · refine dle_bool ?_
        rw [List.length_map] at h
        rw [smallX, allB_false hlt (by simp only [smallC, hg, h]; rfl), Bool.false_and]
      · rw [List.length_map] at h
        refine ⟨i + 1, ⟨hlt, fun j hj => ?_⟩, by simp only []; omega, ?_⟩
        · rcases Nat.lt_succ_iff_lt_or_eq.1 hj with hj | rfl
          · exact hall j hj
          · simp only [smallC, hg, h]; rfl
        · exact ⟨by repeat' ((conv => whnf); first | exact trivial | refine And.intro (by (conv => arg 1; whnf); first | (with_reducible exact .refl) | exact dle_int (wrap_succ (by omega)) | exact .refl) ?_), by repeat' ((conv => whnf); first | exact trivial | refine And.intro ?_ ?_ | exact .refl), rfl⟩
    · have hge : ¬ i < l.length := by simpa using h
      clear h
      repeat' ((conv => whnf); first | refine And.intro (fun h => h) ?_ | refine dcond_t (by assumption) ?_ | refine dcond_f (by assumption) ?_ | (refine dcond_intro ?_ ?_ <;> intro h) | exact .refl | refine And.intro (by kernel_rfl) ?_ | refine And.intro ⟨fun h => h, fun h => h⟩ ?_ | refine Exists.intro false ?_ | (refine And.intro ?_ ?_; focus (simp; done)) | fail)
      all_goals (conv => whnf)
      all_goals (refine dle_bool ?_)
      all_goals (rw [smallX, allB_true.2 (fun j hj => hall j (by omega)), Bool.true_and, List.length_map, List.length_map])
def smA10 (s : Agr) : Bool :=
  bif decide (60 < (s.view.mem.length : Int)) || decide (60 < (s.acc.cut.length : Int)) || decide (60 < (s.prop.length : Int)) || decide (60 < (s.cho.length : Int)) || decide (60 < (s.dec.length : Int)) || !smallX s.view s.box || decide (60 < (s.reps.length : Int)) || decide (60 < (s.accs.length : Int)) then false
  else allB (smallAt s.reps) s.reps.length && allB (smallAt s.accs) s.accs.length
theorem all_small {l : List Rpt} (h : allB (smallAt l) l.length = true) : ∀ r ∈ l, r.cut.length ≤ 1000 := fun r hr => by
  obtain ⟨i, hi, rfl⟩ := List.getElem_of_mem hr
  have := allB_true.1 h i hi
  simp only [smallAt, Bool.not_eq_true', decide_eq_false_iff_not, List.getD_eq_getElem?_getD, List.getElem?_eq_getElem hi, Option.getD_some] at this
  omega
theorem sm_all {s : Agr} (h : smA10 s = true) : SmA s := by
  unfold smA10 at h
  cases h1 : decide (60 < (s.view.mem.length : Int)) || decide (60 < (s.acc.cut.length : Int)) || decide (60 < (s.prop.length : Int)) || decide (60 < (s.cho.length : Int)) || decide (60 < (s.dec.length : Int)) || !smallX s.view s.box || decide (60 < (s.reps.length : Int)) || decide (60 < (s.accs.length : Int))
  · rw [h1, cond_false, Bool.and_eq_true] at h
    simp only [Bool.or_eq_false_iff, Bool.not_eq_false', decide_eq_false_iff_not] at h1
    obtain ⟨⟨⟨⟨⟨⟨⟨a1, a2⟩, a3⟩, a4⟩, a5⟩, a6⟩, a7⟩, a8⟩ := h1
    simp only [smallX, Bool.and_eq_true, decide_eq_true_eq] at a6
    refine ⟨by omega, by omega, by omega, by omega, fun b hb => ?_, by omega, all_small h.1, by omega, by omega, all_small h.2, by omega⟩
    obtain ⟨i, hi, rfl⟩ := List.getElem_of_mem hb
    have := allB_true.1 a6.1 i hi
    simp only [smallC, Bool.not_eq_true', decide_eq_false_iff_not, List.getD_eq_getElem?_getD, List.getElem?_eq_getElem hi, Option.getD_some] at this
    omega
  · rw [h1] at h
    cases h
set_option maxHeartbeats 4000000 in
theorem c_law10_Small (s : Agr) (k1 : s.view.mem.length ≤ maxLen) (k2 : s.box.length ≤ maxLen) (k3 : s.reps.length ≤ maxLen) (k4 : s.accs.length ≤ maxLen) : Ret Tryz.prog 5 [.agg (agrE s)] (.v (.bool (smA10 s))) := by
  have k3' : s.reps.length ≤ 9223372036854775807 := k3
  have k4' : s.accs.length ≤ 9223372036854775807 := k4
  have e26 := c_law8_Small s.view k1 s.box k2
  unfold smA10
  generalize smallX s.view s.box = B at *
  refine ret_of_body (fn := Tryz.f5) (c := Tryz.f5.body.getD .skip) hm hT (by kernel_rfl) Tryz.func5 (by kernel_rfl) (by kernel_rfl) (by kernel_rfl) (by kernel_rfl) ?_
  repeat' ((conv => whnf); first | refine And.intro (fun h => h) ?_ | refine dcond_t (by assumption) ?_ | refine dcond_f (by assumption) ?_ | (refine dcond_intro ?_ ?_ <;> intro h) | exact .refl | refine And.intro (by kernel_rfl) ?_ | refine And.intro ⟨fun h => h, fun h => h⟩ ?_ | refine .inl ⟨_, _, DleAll_refl _, e26, ?_⟩ | refine ⟨_, _, DleAll_refl _, fun _ => e26, ?_⟩ | refine ⟨_, _, DleAll_refl _, e26, ?_⟩ | refine Exists.intro false ?_ | (refine And.intro ?_ ?_; focus (simp; done)) | fail)
  all_goals (conv => whnf)
  · simp only [List.length_map] at h
    refine dle_bool ?_
    rw [h, cond_true]
  · simp only [List.length_map] at h
    rw [h, cond_false]
    clear h
    refine ⟨Nat, fun i => ⟨[(1, .lp 0 0), (3, i64 i)], [.cells 30 (agrE s)]⟩, fun i => i ≤ s.reps.length ∧ ∀ j, j < i → smallAt s.reps j = true, fun i => s.reps.length - i, [], ⟨0, ⟨Nat.zero_le _, by omega⟩, ?_⟩, ?_⟩
    · conv => whnf
      exact ⟨⟨.refl, .refl, trivial⟩, ⟨.refl, trivial⟩, by rfl⟩
    · intro i ⟨hi, hall⟩
      conv => whnf
      refine dcond_intro ?_ ?_ <;> intro h
      · have hlt : i < s.reps.length := by simpa using h
        clear h
        have hg : s.reps.getD i rpt0 = s.reps[i] := by simp [hlt]
        repeat' ((conv => whnf); first | refine And.intro (fun h => h) ?_ | refine dcond_t (by assumption) ?_ | refine dcond_f (by assumption) ?_ | (refine dcond_intro ?_ ?_ <;> intro h) | exact .refl | refine And.intro (by kernel_rfl) ?_ | refine And.intro ⟨fun h => h, fun h => h⟩ ?_ | refine ⟨_, _, And.intro ⟨rfl, get_map hlt⟩ ?_⟩ | refine Exists.intro false ?_ | (refine And.intro ?_ ?_; focus (simp; done)) | fail)
        all_goals (conv => whnf)
        · refine dle_bool ?_
          rw [List.length_map] at h
          rw [allB_false hlt (by simp only [smallAt, hg, h]; rfl), Bool.false_and]
        · rw [List.length_map] at h
          refine ⟨i + 1, ⟨hlt, fun j hj => ?_⟩, by simp only []; omega, ?_⟩
          · rcases Nat.lt_succ_iff_lt_or_eq.1 hj with hj | rfl
            · exact hall j hj
            · simp only [smallAt, hg, h]; rfl
          · conv => whnf
            exact ⟨⟨.refl, dle_int (wrap_succ (by omega)), trivial⟩, ⟨.refl, trivial⟩, by rfl⟩
      · have hge : ¬ i < s.reps.length := by simpa using h
        clear h
        rw [allB_true.2 (fun j hj => hall j (by omega)), Bool.true_and]
        conv => whnf
        refine ⟨Nat, fun i => ⟨[(1, .lp 0 0), (4, i64 i)], [.cells 30 (agrE s)]⟩, fun i => i ≤ s.accs.length ∧ ∀ j, j < i → smallAt s.accs j = true, fun i => s.accs.length - i, [], ⟨0, ⟨Nat.zero_le _, by omega⟩, ?_⟩, ?_⟩
        · conv => whnf
          exact ⟨⟨.refl, .refl, trivial⟩, ⟨.refl, trivial⟩, by rfl⟩
        · intro i ⟨hi, hall⟩
          conv => whnf
          refine dcond_intro ?_ ?_ <;> intro h
          · have hlt : i < s.accs.length := by simpa using h
            clear h
            have hg : s.accs.getD i rpt0 = s.accs[i] := by simp [hlt]
            repeat' ((conv => whnf); first | refine And.intro (fun h => h) ?_ | refine dcond_t (by assumption) ?_ | refine dcond_f (by assumption) ?_ | (refine dcond_intro ?_ ?_ <;> intro h) | exact .refl | refine And.intro (by kernel_rfl) ?_ | refine And.intro ⟨fun h => h, fun h => h⟩ ?_ | refine ⟨_, _, And.intro ⟨rfl, get_map hlt⟩ ?_⟩ | refine Exists.intro false ?_ | (refine And.intro ?_ ?_; focus (simp; done)) | fail)
            all_goals (conv => whnf)
            · refine dle_bool ?_
              rw [List.length_map] at h
              rw [allB_false hlt (by simp only [smallAt, hg, h]; rfl)]
            · rw [List.length_map] at h
              refine ⟨i + 1, ⟨hlt, fun j hj => ?_⟩, by simp only []; omega, ?_⟩
              · rcases Nat.lt_succ_iff_lt_or_eq.1 hj with hj | rfl
                · exact hall j hj
                · simp only [smallAt, hg, h]; rfl
              · conv => whnf
                exact ⟨⟨.refl, dle_int (wrap_succ (by omega)), trivial⟩, ⟨.refl, trivial⟩, by rfl⟩
          · have hge : ¬ i < s.accs.length := by simpa using h
            clear h
            conv => whnf
            refine dle_bool ?_
            rw [allB_true.2 (fun j hj => hall j (by omega))]
end Go.Proofs.YtmbniilpgbjcfaaGreat

set_option maxRecDepth 100000
namespace Go.Proofs.YtmbniilpgbjcfaaGreat
open Go.Lift
theorem ofb_ix {l : List Bal} {x : Int} (h : decide (0 ≤ ofBal l x) = true) : ofBal l x = ((ofBal l x).toNat : Int) ∧ (l.map balE)[(ofBal l x).toNat]? = some (balE (l.getD (ofBal l x).toNat bal0)) := by
  have h := of_decide_eq_true h
  refine ⟨by omega, ?_⟩
  unfold ofBal at h ⊢
  rcases hf : (List.range l.length).find? (fun i => decide ((l.getD i bal0).mem = x)) with _ | n
  · simp only [findB, hf] at h
    omega
  · have hm := List.mem_of_find?_eq_some hf
    have hn : n < l.length := List.mem_range.1 hm
    simp only [findB, hf, Int.toNat_natCast]
    simp [hn]
theorem allB_and {p q : Nat → Bool} {n : Nat} : allB (fun i => p i && q i) n = (allB p n && allB q n) := by
  cases h : allB p n && allB q n
  · cases h2 : allB (fun i => p i && q i) n
    · rfl
    · have h2 := allB_true.1 h2
      have h3 : allB p n = true := allB_true.2 fun i hi => by
        have := h2 i hi
        simp only [Bool.and_eq_true] at this
        exact this.1
      have h4 : allB q n = true := allB_true.2 fun i hi => by
        have := h2 i hi
        simp only [Bool.and_eq_true] at this
        exact this.2
      rw [h3, h4] at h
      cases h
  · simp only [Bool.and_eq_true] at h
    exact allB_true.2 fun i hi => by rw [allB_true.1 h.1 i hi, allB_true.1 h.2 i hi]; rfl
theorem reps_low {v : View} {l : List Rpt} (h : repsB v l = true) : allB (leP (-1) l) l.length = true := by
  have hv : viewB v = true := by
    simp only [repsB, Bool.and_eq_true] at h
    exact h.1
  refine allB_true.2 fun i hi => ?_
  have hg : l.getD i rpt0 = l[i] := by simp [hi]
  have := ((reps_iff hv).1 h).1 _ (List.getElem_mem hi)
  have hlow := @owner_low l[i].rank
  simp only [vrB, Bool.and_eq_true, Bool.or_eq_true, decide_eq_true_eq, usableB, Bool.not_eq_true', decide_eq_false_iff_not] at this
  simp only [leP, hg, Bool.not_eq_true', decide_eq_false_iff_not]
  rcases this.2 with h1 | ⟨h1 | h1, _⟩
  · omega
  · omega
  · have := hlow h1
    omega
theorem agrB_eq (s : Agr) : agrB s = (!(!viewB s.view || !inB s.view.mem s.self || decide (s.wait < 0) || decide (1099511627776 < s.wait)) && (!(!accB s.acc || !decide (s.acc.pro = 0) && !properB s.view s.acc.pro || decide (0 < s.acc.rank) && !properB s.view s.acc.rank || !goodB s.view s.acc.cut || !goodB s.view s.prop || !goodB s.view s.cho || !goodB s.view s.dec || !boxB s.view s.box) && (!(decide (0 ≤ ofBal s.box s.self) && !sameI (s.box.getD (ofBal s.box s.self).toNat bal0).cut s.prop) && (!(!repsB s.view s.reps || !allB (fun i => leP (-1) s.reps i && rkP s.view s.reps i) s.reps.length || !repsB s.view s.accs || !allB (fun i => leP 1 s.accs i && rkP s.view s.accs i) s.accs.length) && phaseB s)))) := by
  have e2 := @reps_low s.view s.reps
  unfold agrB prB
  rw [allB_and, allB_and]
  rw [show ((cutOf s.box s.self).2 && !sameI (cutOf s.box s.self).1 s.prop) = (decide (0 ≤ ofBal s.box s.self) && !sameI (s.box.getD (ofBal s.box s.self).toNat bal0).cut s.prop) from by
    unfold cutOf
    cases decide (0 ≤ ofBal s.box s.self) <;> rfl]
  generalize (!viewB s.view || !inB s.view.mem s.self || decide (s.wait < 0) || decide (1099511627776 < s.wait)) = a1
  generalize (!accB s.acc || !decide (s.acc.pro = 0) && !properB s.view s.acc.pro || decide (0 < s.acc.rank) && !properB s.view s.acc.rank || !goodB s.view s.acc.cut) = a2
  generalize (decide (0 ≤ ofBal s.box s.self) && !sameI (s.box.getD (ofBal s.box s.self).toNat bal0).cut s.prop) = a3
  generalize goodB s.view s.prop = b1
  generalize goodB s.view s.cho = b2
  generalize goodB s.view s.dec = b3
  generalize boxB s.view s.box = b4
  generalize phaseB s = c1
  generalize repsB s.view s.reps = c2 at *
  generalize repsB s.view s.accs = c3
  generalize allB (leP (-1) s.reps) s.reps.length = c4 at *
  generalize allB (rkP s.view s.reps) s.reps.length = c5
  generalize allB (leP 1 s.accs) s.accs.length = c6
  generalize allB (rkP s.view s.accs) s.accs.length = c7
  cases a1
  · cases a2
    · cases a3
      · cases b1 <;> cases b2 <;> cases b3 <;> cases b4 <;> simp
        cases c2
        · simp
        · rw [e2 rfl]
          cases c1 <;> cases c3 <;> cases c5 <;> cases c6 <;> cases c7 <;> rfl
      · simp
    · simp
  · rfl
theorem phase_ref (s : Agr) : (bif !decide (s.rank = 0) && (!properB s.view s.rank || !decide (ownerOf s.rank = s.self)) || decide (s.phase < 0) || decide (2 < s.phase) then false
    else bif decide (s.phase = 0) then decide ((s.reps.length : Int) = 0) && decide ((s.cho.length : Int) = 0)
    else !decide (s.rank = 0) && decide (0 < (s.prop.length : Int)) && decide (0 ≤ ofB s.reps s.self) && (decide (0 < (s.cho.length : Int)) == decide (s.phase = 2)) && (decide (s.phase = 2) || decide ((s.reps.length : Int) < majB s.view.mem.length))) = phaseB s := by
  unfold phaseB
  generalize (!decide (s.rank = 0) && (!properB s.view s.rank || !decide (ownerOf s.rank = s.self))) = a1
  generalize decide ((s.reps.length : Int) = 0) = a2
  have hc : decide ((s.cho.length : Int) = 0) = !decide (0 < (s.cho.length : Int)) := by
    by_cases h : (s.cho.length : Int) = 0
    · rw [decide_eq_true h, h]
      rfl
    · rw [decide_eq_false h, decide_eq_true (show 0 < (s.cho.length : Int) by omega)]
      rfl
  rw [hc]
  generalize decide (0 < (s.cho.length : Int)) = a3
  generalize decide ((s.reps.length : Int) < majB s.view.mem.length) = a4
  generalize decide (0 ≤ ofB s.reps s.self) = a5
  generalize decide (0 < (s.prop.length : Int)) = a6
  generalize decide (s.rank = 0) = a7
  by_cases p0 : s.phase = 0
  · cases a1 <;> cases a2 <;> cases a3 <;> simp [p0]
  · by_cases p1 : s.phase = 1
    · cases a1 <;> cases a3 <;> cases a4 <;> cases a5 <;> cases a6 <;> cases a7 <;> simp [p1]
    · by_cases p2 : s.phase = 2
      · cases a1 <;> cases a3 <;> cases a4 <;> cases a5 <;> cases a6 <;> cases a7 <;> simp [p2]
      · have hr : (decide (s.phase < 0) || decide (2 < s.phase)) = true := by
          simp only [Bool.or_eq_true, decide_eq_true_eq]
          omega
        rw [Bool.or_assoc, hr, Bool.or_true, cond_true, decide_eq_false p0, decide_eq_false p1, decide_eq_false p2]
        cases a1 <;> cases a3 <;> rfl
set_option maxHeartbeats 8000000 in
theorem c_ref10_Valid (s : Agr) (hs : SmA s) : Ret Tryz.prog 24 [.agg (agrE s)] (.v (.bool (agrB s))) := by
  have hvm := mx hs.mem
  have e48 := c_ref8_Valid s.view (by have := hs.mem; omega) s.box (mx hs.box) (fun b hb => by have := hs.boxc b hb; omega)
  have e49 := c_ref8_Of s.box (mx hs.box) s.self
  have eacc := c_ref9_Valid s.acc (mx hs.acut)
  have o1 := c_ref10_Good s.view (by have := hs.mem; omega) s.acc.cut (by have := hs.acut; omega)
  have o2 := c_ref10_Good s.view (by have := hs.mem; omega) s.prop (by have := hs.prop; omega)
  have o3 := c_ref10_Good s.view (by have := hs.mem; omega) s.cho (by have := hs.cho; omega)
  have o4 := c_ref10_Good s.view (by have := hs.mem; omega) s.dec (by have := hs.dec; omega)
  have eo := c_ref9_Owner s.rank
  rw [ownerRef_eq] at eo
  have e51 := c_ref9_ValidReports s.view (by have := hs.mem; omega) s.reps (mx hs.reps) (fun b hb => by have := hs.repc b hb; omega)
  have e51' := c_ref9_ValidReports s.view (by have := hs.mem; omega) s.accs (mx hs.accs) (fun b hb => by have := hs.accc b hb; omega)
  have e52 := c_ref10_ranks s.view (by have := hs.mem; omega) s.reps (mx hs.reps) (-1)
  have e52' := c_ref10_ranks s.view (by have := hs.mem; omega) s.accs (mx hs.accs) 1
  have e53 := c_ref9_Of s.reps (mx hs.reps) s.self
  have hix := @ofb_ix s.box s.self
  have hcut : (s.box.getD (ofBal s.box s.self).toNat bal0).cut.length ≤ maxLen := by
    rcases Nat.lt_or_ge (ofBal s.box s.self).toNat s.box.length with h | h
    · simp only [List.getD_eq_getElem?_getD, List.getElem?_eq_getElem h, Option.getD_some]
      exact mx (hs.boxc _ (List.getElem_mem h))
    · simp only [List.getD_eq_getElem?_getD, List.getElem?_eq_none h, Option.getD_none]
      exact Nat.zero_le _
  have e34 := c_ref1_SameInts (s.box.getD (ofBal s.box s.self).toNat bal0).cut s.prop hcut
  have hph := phase_ref s
  rw [agrB_eq]
  generalize (s.box.getD (ofBal s.box s.self).toNat bal0) = X at *
  generalize phaseB s = PB at *
  generalize allB (fun i => leP (-1) s.reps i && rkP s.view s.reps i) s.reps.length = R1 at *
  generalize allB (fun i => leP 1 s.accs i && rkP s.view s.accs i) s.accs.length = R2 at *
  generalize repsB s.view s.reps = R3 at *
  generalize repsB s.view s.accs = R4 at *
  generalize accB s.acc = R5 at *
  generalize boxB s.view s.box = R6 at *
  refine ret_of_body (fn := Tryz.f24) (c := Tryz.f24.body.getD .skip) hm hT (by kernel_rfl) Tryz.func24 (by kernel_rfl) (by kernel_rfl) (by kernel_rfl) (by kernel_rfl) ?_
  repeat' ((conv => whnf); first | refine And.intro (fun h => h) ?_ | refine dcond_t (by assumption) ?_ | refine dcond_f (by assumption) ?_ | (refine dcond_intro ?_ ?_ <;> intro h) | exact .refl | refine And.intro (by kernel_rfl) ?_ | refine And.intro ⟨fun h => h, fun h => h⟩ ?_ | refine .inl ⟨_, _, DleAll_refl _, c_ref3_Valid _ hvm, ?_⟩ | refine ⟨_, _, DleAll_refl _, fun _ => c_ref3_Valid _ hvm, ?_⟩ | refine ⟨_, _, DleAll_refl _, c_ref3_Valid _ hvm, ?_⟩ | refine .inl ⟨_, _, DleAll_refl _, c_ref3_Contains _ hvm _, ?_⟩ | refine ⟨_, _, DleAll_refl _, fun _ => c_ref3_Contains _ hvm _, ?_⟩ | refine ⟨_, _, DleAll_refl _, c_ref3_Contains _ hvm _, ?_⟩ | refine .inl ⟨_, _, DleAll_refl _, eacc, ?_⟩ | refine ⟨_, _, DleAll_refl _, fun _ => eacc, ?_⟩ | refine ⟨_, _, DleAll_refl _, eacc, ?_⟩ | refine .inl ⟨_, _, DleAll_refl _, c_ref10_Proper _ hvm _, ?_⟩ | refine ⟨_, _, DleAll_refl _, fun _ => c_ref10_Proper _ hvm _, ?_⟩ | refine ⟨_, _, DleAll_refl _, c_ref10_Proper _ hvm _, ?_⟩ | refine .inl ⟨_, _, DleAll_refl _, o1, ?_⟩ | refine ⟨_, _, DleAll_refl _, fun _ => o1, ?_⟩ | refine ⟨_, _, DleAll_refl _, o1, ?_⟩ | refine .inl ⟨_, _, DleAll_refl _, o2, ?_⟩ | refine ⟨_, _, DleAll_refl _, fun _ => o2, ?_⟩ | refine ⟨_, _, DleAll_refl _, o2, ?_⟩ | refine .inl ⟨_, _, DleAll_refl _, o3, ?_⟩ | refine ⟨_, _, DleAll_refl _, fun _ => o3, ?_⟩ | refine ⟨_, _, DleAll_refl _, o3, ?_⟩ | refine .inl ⟨_, _, DleAll_refl _, o4, ?_⟩ | refine ⟨_, _, DleAll_refl _, fun _ => o4, ?_⟩ | refine ⟨_, _, DleAll_refl _, o4, ?_⟩ | refine .inl ⟨_, _, DleAll_refl _, e48, ?_⟩ | refine ⟨_, _, DleAll_refl _, fun _ => e48, ?_⟩ | refine ⟨_, _, DleAll_refl _, e48, ?_⟩ | refine .inl ⟨_, _, DleAll_refl _, e49, ?_⟩ | refine ⟨_, _, DleAll_refl _, fun _ => e49, ?_⟩ | refine ⟨_, _, DleAll_refl _, e49, ?_⟩ | refine ⟨(ofBal s.box s.self).toNat, balE X, And.intro ⟨⟨fun h => h, fun h => h⟩, fun hg => hix hg⟩ ?_⟩ | refine .inl ⟨_, _, DleAll_refl _, e34, ?_⟩ | refine ⟨_, _, DleAll_refl _, fun _ => e34, ?_⟩ | refine ⟨_, _, DleAll_refl _, e34, ?_⟩ | refine .inl ⟨_, _, DleAll_refl _, eo, ?_⟩ | refine ⟨_, _, DleAll_refl _, fun _ => eo, ?_⟩ | refine ⟨_, _, DleAll_refl _, eo, ?_⟩ | refine .inl ⟨_, _, DleAll_refl _, e51, ?_⟩ | refine ⟨_, _, DleAll_refl _, fun _ => e51, ?_⟩ | refine ⟨_, _, DleAll_refl _, e51, ?_⟩ | refine .inl ⟨_, _, DleAll_refl _, e51', ?_⟩ | refine ⟨_, _, DleAll_refl _, fun _ => e51', ?_⟩ | refine ⟨_, _, DleAll_refl _, e51', ?_⟩ | refine .inl ⟨_, _, DleAll_refl _, e52, ?_⟩ | refine ⟨_, _, DleAll_refl _, fun _ => e52, ?_⟩ | refine ⟨_, _, DleAll_refl _, e52, ?_⟩ | refine .inl ⟨_, _, DleAll_refl _, e52', ?_⟩ | refine ⟨_, _, DleAll_refl _, fun _ => e52', ?_⟩ | refine ⟨_, _, DleAll_refl _, e52', ?_⟩ | refine .inl ⟨_, _, DleAll_refl _, e53, ?_⟩ | refine ⟨_, _, DleAll_refl _, fun _ => e53, ?_⟩ | refine ⟨_, _, DleAll_refl _, e53, ?_⟩ | refine .inl ⟨_, _, DleAll_refl _, c_ref3_Majority _, ?_⟩ | refine ⟨_, _, DleAll_refl _, fun _ => c_ref3_Majority _, ?_⟩ | refine ⟨_, _, DleAll_refl _, c_ref3_Majority _, ?_⟩ | refine Exists.intro false ?_ | (refine And.intro ?_ ?_; focus (simp; done)) | fail)
  all_goals (conv => whnf)
  · refine dle_bool ?_
    simp only [h, Bool.not_true, Bool.false_and]
  · rename_i h1
    refine dle_bool ?_
    simp only [h1, h, Bool.not_true, Bool.not_false, Bool.true_and, Bool.false_and]
  · rename_i h1 h2
    refine dle_bool ?_
    simp only [h1, h2, h, Bool.not_true, Bool.not_false, Bool.true_and, Bool.false_and]
  · rename_i h1 h2 h3
    refine dle_bool ?_
    rw [h, cond_true] at hph
    rw [← hph, Bool.and_false, Bool.and_false, Bool.and_false, Bool.and_false]
  · rename_i h1 h2 h3 h4
    refine dle_bool ?_
    simp only [h1, h2, h3, h, Bool.not_true, Bool.not_false, Bool.true_and, Bool.false_and]
  · rename_i h1 h2 h3 h4 h5
    refine dle_bool ?_
    rw [h4, cond_false, h, cond_true] at hph
    simp only [h1, h2, h3, h5, Bool.not_false, Bool.true_and]
    rw [← hph, List.length_map, List.length_map]
  · rename_i h1 h2 h3 h4 h5
    refine dle_bool ?_
    rw [h4, cond_false, h, cond_false] at hph
    simp only [h1, h2, h3, h5, Bool.not_false, Bool.true_and]
    rw [← hph, List.length_map, List.length_map, List.length_map, List.length_map]
end Go.Proofs.YtmbniilpgbjcfaaGreat

set_option maxRecDepth 100000
namespace Go.Proofs.YtmbniilpgbjcfaaGreat
open Go.Lift
theorem c_ref8_Same (l : List Bal) (hl : l.length ≤ maxLen) (hc : ∀ r ∈ l, r.cut.length ≤ maxLen) : Ret Tryz.prog 53 [.lst 2 (l.map balE) false, .lst 2 (l.map balE) false] (.v (.bool true)) := by
  have hl' : l.length ≤ 9223372036854775807 := hl
  refine ret_of_body (fn := Tryz.f53) (c := Tryz.f53.body.getD .skip) hm hT (by kernel_rfl) Tryz.func53 (by kernel_rfl) (by kernel_rfl) (by kernel_rfl) (by kernel_rfl) ?_
  repeat' ((conv => whnf); first | refine And.intro (fun h => h) ?_ | refine dcond_t (by assumption) ?_ | refine dcond_f (by assumption) ?_ | (refine dcond_intro ?_ ?_ <;> intro h) | exact .refl | refine And.intro (by kernel_rfl) ?_ | refine And.intro ⟨fun h => h, fun h => h⟩ ?_ | refine Exists.intro false ?_ | (refine And.intro ?_ ?_; focus (simp; done)) | fail)
  · exfalso
    simp at h
  · refine ⟨Nat, fun i => ⟨[(0, .lst 2 (l.map balE) false), (1, .lst 2 (l.map balE) false), (5, i64 i)], []⟩, fun i => i ≤ l.length, fun i => l.length - i, [], ⟨0, Nat.zero_le _, ?_⟩, ?_⟩
    · exact ⟨by repeat' ((conv => whnf); first | exact trivial | refine And.intro (by (conv => arg 1; whnf); first | (with_reducible exact .refl) | exact dle_int (wrap_succ (by omega)) | exact .refl) ?_), by repeat' ((conv => whnf); first | exact trivial | refine And.intro ?_ ?_ | exact .refl), rfl⟩
    · intro i hi
      repeat' ((conv => whnf); first | refine And.intro (fun h => h) ?_ | refine dcond_t (by assumption) ?_ | refine dcond_f (by assumption) ?_ | (refine dcond_intro ?_ ?_ <;> intro h) | exact .refl | refine And.intro (by kernel_rfl) ?_ | refine And.intro ⟨fun h => h, fun h => h⟩ ?_ | refine Exists.intro false ?_ | (refine And.intro ?_ ?_; focus (simp; done)) | fail)
      · have hlt : i < l.length := by simpa using h
        clear h
        have e := c_ref1_SameInts (l[i].cut) (l[i].cut) (hc _ (List.getElem_mem hlt))
        rw [sameI_refl] at e
        repeat' ((conv => whnf); first | refine And.intro (fun h => h) ?_ | refine dcond_t (by assumption) ?_ | refine dcond_f (by assumption) ?_ | (refine dcond_intro ?_ ?_ <;> intro h) | exact .refl | refine And.intro (by kernel_rfl) ?_ | refine And.intro ⟨fun h => h, fun h => h⟩ ?_ | refine ⟨_, _, And.intro ⟨rfl, get_map hlt⟩ ?_⟩ | refine .inl ⟨_, _, DleAll_refl _, e, ?_⟩ | refine ⟨_, _, DleAll_refl _, fun _ => e, ?_⟩ | refine ⟨_, _, DleAll_refl _, e, ?_⟩ | refine ⟨i, balE (l[i]'hlt), And.intro ⟨⟨fun h => h, fun h => h⟩, fun hg => ⟨rfl, get_map hlt⟩⟩ ?_⟩ | refine Exists.intro false ?_ | (refine And.intro ?_ ?_; focus (simp; done)) | fail)
        all_goals (conv => whnf)
        · exfalso
          simp at h
        · refine ⟨i + 1, hlt, by simp only []; omega, ?_⟩
          exact ⟨by repeat' ((conv => whnf); first | exact trivial | refine And.intro (by (conv => arg 1; whnf); first | (with_reducible exact .refl) | exact dle_int (wrap_succ (by omega)) | exact .refl) ?_), by repeat' ((conv => whnf); first | exact trivial | refine And.intro ?_ ?_ | exact .refl), rfl⟩
theorem c_ref3_Same (a b : View) (ha : a.mem.length ≤ maxLen) : Ret Tryz.prog 50 [.agg (viewE a), .agg (viewE b)] (.v (.bool (decide (a.num = b.num) && sameI a.mem b.mem))) := by
  refine ret_of_body (fn := Tryz.f50) (c := Tryz.f50.body.getD .skip) hm hT (by kernel_rfl) Tryz.func50 (by kernel_rfl) (by kernel_rfl) (by kernel_rfl) (by kernel_rfl) ?_
  repeat' ((conv => whnf); first | refine And.intro (fun h => h) ?_ | refine dcond_t (by assumption) ?_ | refine dcond_f (by assumption) ?_ | (refine dcond_intro ?_ ?_ <;> intro h) | exact .refl | refine And.intro (by kernel_rfl) ?_ | refine And.intro ⟨fun h => h, fun h => h⟩ ?_ | refine .inl ⟨_, _, DleAll_refl _, c_ref1_SameInts _ _ ha, ?_⟩ | refine ⟨_, _, DleAll_refl _, fun _ => c_ref1_SameInts _ _ ha, ?_⟩ | refine ⟨_, _, DleAll_refl _, c_ref1_SameInts _ _ ha, ?_⟩ | refine Exists.intro false ?_ | (refine And.intro ?_ ?_; focus (simp; done)) | fail)
set_option maxHeartbeats 4000000 in
theorem c_ref10_Same (s : Agr) (hs : SmA s) : Ret Tryz.prog 12 [.agg (agrE s), .agg (agrE s)] (.v (.bool true)) := by
  have e1 := c_ref3_Same s.view s.view (mx hs.mem)
  have e2 := c_ref9_Same s.acc s.acc (mx hs.acut)
  have e3 := c_ref1_SameInts s.prop s.prop (mx hs.prop)
  have e4 := c_ref8_Same s.box (mx hs.box) (fun b hb => mx (hs.boxc b hb))
  have e5 := c_ref9_SameReports s.reps (mx hs.reps) (fun b hb => mx (hs.repc b hb))
  have e6 := c_ref1_SameInts s.cho s.cho (mx hs.cho)
  have e7 := c_ref9_SameReports s.accs (mx hs.accs) (fun b hb => mx (hs.accc b hb))
  have e8 := c_ref1_SameInts s.dec s.dec (mx hs.dec)
  refine ret_of_body (fn := Tryz.f12) (c := Tryz.f12.body.getD .skip) hm hT (by kernel_rfl) Tryz.func12 (by kernel_rfl) (by kernel_rfl) (by kernel_rfl) (by kernel_rfl) ?_
  repeat' ((conv => whnf); first | refine And.intro (fun h => h) ?_ | refine dcond_t (by assumption) ?_ | refine dcond_f (by assumption) ?_ | (refine dcond_intro ?_ ?_ <;> intro h) | exact .refl | refine And.intro (by kernel_rfl) ?_ | refine And.intro ⟨fun h => h, fun h => h⟩ ?_ | refine .inl ⟨_, _, DleAll_refl _, e1, ?_⟩ | refine ⟨_, _, DleAll_refl _, fun _ => e1, ?_⟩ | refine ⟨_, _, DleAll_refl _, e1, ?_⟩ | refine .inl ⟨_, _, DleAll_refl _, e2, ?_⟩ | refine ⟨_, _, DleAll_refl _, fun _ => e2, ?_⟩ | refine ⟨_, _, DleAll_refl _, e2, ?_⟩ | refine .inl ⟨_, _, DleAll_refl _, e3, ?_⟩ | refine ⟨_, _, DleAll_refl _, fun _ => e3, ?_⟩ | refine ⟨_, _, DleAll_refl _, e3, ?_⟩ | refine .inl ⟨_, _, DleAll_refl _, e4, ?_⟩ | refine ⟨_, _, DleAll_refl _, fun _ => e4, ?_⟩ | refine ⟨_, _, DleAll_refl _, e4, ?_⟩ | refine .inl ⟨_, _, DleAll_refl _, e5, ?_⟩ | refine ⟨_, _, DleAll_refl _, fun _ => e5, ?_⟩ | refine ⟨_, _, DleAll_refl _, e5, ?_⟩ | refine .inl ⟨_, _, DleAll_refl _, e6, ?_⟩ | refine ⟨_, _, DleAll_refl _, fun _ => e6, ?_⟩ | refine ⟨_, _, DleAll_refl _, e6, ?_⟩ | refine .inl ⟨_, _, DleAll_refl _, e7, ?_⟩ | refine ⟨_, _, DleAll_refl _, fun _ => e7, ?_⟩ | refine ⟨_, _, DleAll_refl _, e7, ?_⟩ | refine .inl ⟨_, _, DleAll_refl _, e8, ?_⟩ | refine ⟨_, _, DleAll_refl _, fun _ => e8, ?_⟩ | refine ⟨_, _, DleAll_refl _, e8, ?_⟩ | refine Exists.intro false ?_ | (refine And.intro ?_ ?_; focus (simp; done)) | fail)
  all_goals (conv => whnf)
  all_goals (refine dle_bool ?_)
  all_goals simp [sameA, sameI_refl]
def vwA : View := ⟨0, [1, 2]⟩
def sA1 : Agr := ⟨1, vwA, ⟨0, -1, []⟩, [], [], 0, 0, [], [], [], [], 0⟩
def sA2 : Agr := ⟨1, vwA, ⟨0, 0, [7]⟩, [7], [⟨1, [7]⟩], 0, 0, [], [], [], [], 0⟩
def pA1 : Pkt := ⟨0, ⟨1, 0, 1, 0, 0, [7]⟩⟩
def tA1 : Agr := ⟨2, vwA, ⟨0, -1, []⟩, [], [], 0, 0, [], [], [], [], 0⟩
def tA2 : Agr := ⟨2, vwA, ⟨0, 0, [7]⟩, [7], [⟨2, [7]⟩], 0, 0, [], [], [], [], 0⟩
def qA1 : Pkt := ⟨0, ⟨1, 0, 2, 0, 0, [7]⟩⟩
def tA3 : Agr := ⟨2, vwA, ⟨0, 0, [7]⟩, [7], [⟨1, [7]⟩, ⟨2, [7]⟩], 0, 0, [], [], [], [7], 0⟩
def rA1 : Pkt := ⟨0, ⟨6, 0, 2, 0, 0, [7]⟩⟩
def wwA : View := ⟨0, [3]⟩
def oA1 : Agr := ⟨3, wwA, ⟨0, -1, []⟩, [], [], 0, 0, [], [], [], [], 0⟩
def oA2 : Agr := ⟨3, wwA, ⟨0, 0, [4]⟩, [4], [⟨3, [4]⟩], 0, 0, [], [], [], [4], 0⟩
def oP1 : Pkt := ⟨0, ⟨1, 0, 3, 0, 0, [4]⟩⟩
def oP2 : Pkt := ⟨0, ⟨6, 0, 3, 0, 0, [4]⟩⟩
theorem smEx {s : Agr} (h1 : s.view.mem.length ≤ 1000) (h2 : s.acc.cut.length ≤ 1000) (h3 : s.prop.length ≤ 1000) (h4 : s.box.length ≤ 1000) (h5 : ∀ b ∈ s.box, b.cut.length ≤ 1000) (h6 : s.reps = []) (h7 : s.cho.length ≤ 1000) (h8 : s.accs = []) (h9 : s.dec.length ≤ 1000) : SmA s :=
  ⟨h1, h2, h3, h4, h5, (by rw [h6]; exact Nat.zero_le _), (fun b hb => by rw [h6] at hb; cases hb), h7, (by rw [h8]; exact Nat.zero_le _), (fun b hb => by rw [h8] at hb; cases hb), h9⟩
set_option maxHeartbeats 8000000 in
theorem c_law10_awake : Ret Tryz.prog 4 [] (.v (.bool true)) := by
  have e1 : Ret Tryz.prog 14 [.agg (viewE vwA), i64 1] (.tup [.agg (agrE sA1), i64 0]) := by
    have := c_agreement_New vwA (by decide) 1
    rw [show newA vwA 1 = (sA1, 0) by kernel_rfl] at this
    exact this
  have e2 : Ret Tryz.prog 14 [.agg (viewE vwA), i64 2] (.tup [.agg (agrE tA1), i64 0]) := by
    have := c_agreement_New vwA (by decide) 2
    rw [show newA vwA 2 = (tA1, 0) by kernel_rfl] at this
    exact this
  have e3 : Ret Tryz.prog 14 [.agg (viewE wwA), i64 3] (.tup [.agg (agrE oA1), i64 0]) := by
    have := c_agreement_New wwA (by decide) 3
    rw [show newA wwA 3 = (oA1, 0) by kernel_rfl] at this
    exact this
  have e4 : Ret Tryz.prog 6 [.agg (agrE sA1), .lst 1 (([7] : List Int).map intE) false] (.tup [.agg (agrE sA2), .lst 7 ([pA1].map pktE) false, i64 0]) := by
    have := c_agreement_Propose sA1 (smEx (by decide) (by decide) (by decide) (by decide) (fun b hb => by cases hb) rfl (by decide) rfl (by decide)) [7] (by decide)
    rw [show propA sA1 [7] = (sA2, [pA1], 0) by kernel_rfl] at this
    exact this
  have e5 : Ret Tryz.prog 6 [.agg (agrE tA1), .lst 1 (([7] : List Int).map intE) false] (.tup [.agg (agrE tA2), .lst 7 ([qA1].map pktE) false, i64 0]) := by
    have := c_agreement_Propose tA1 (smEx (by decide) (by decide) (by decide) (by decide) (fun b hb => by cases hb) rfl (by decide) rfl (by decide)) [7] (by decide)
    rw [show propA tA1 [7] = (tA2, [qA1], 0) by kernel_rfl] at this
    exact this
  have e6 : Ret Tryz.prog 6 [.agg (agrE oA1), .lst 1 (([4] : List Int).map intE) false] (.tup [.agg (agrE oA2), .lst 7 ([oP1, oP2].map pktE) false, i64 0]) := by
    have := c_agreement_Propose oA1 (smEx (by decide) (by decide) (by decide) (by decide) (fun b hb => by cases hb) rfl (by decide) rfl (by decide)) [4] (by decide)
    rw [show propA oA1 [4] = (oA2, [oP1, oP2], 0) by kernel_rfl] at this
    exact this
  have e7 : Ret Tryz.prog 8 [.agg (agrE tA2), .agg (msgE pA1.m)] (.tup [.agg (agrE tA3), .lst 7 ([rA1].map pktE) false, i64 0]) := by
    have := c_Receive_vote tA2 (smEx (by decide) (by decide) (by decide) (by decide) (fun b hb => by
      rcases List.mem_singleton.1 hb with rfl
      decide) rfl (by decide) rfl (by decide)) pA1.m (by decide) (by kernel_rfl) rfl (by kernel_rfl) (by decide) rfl rfl
    rw [show endA (voteA tA2 pA1.m) [] = (tA3, [rA1]) by kernel_rfl] at this
    exact this
  refine ret_of_body (fn := Tryz.f4) (c := Tryz.f4.body.getD .skip) hm hT (by kernel_rfl) Tryz.func4 (by kernel_rfl) (by kernel_rfl) (by kernel_rfl) (by kernel_rfl) ?_
  repeat' ((conv => whnf); first | refine And.intro (fun h => h) ?_ | refine dcond_t (by assumption) ?_ | refine dcond_f (by assumption) ?_ | (refine dcond_intro ?_ ?_ <;> intro h) | exact .refl | refine And.intro (by kernel_rfl) ?_ | refine And.intro ⟨fun h => h, fun h => h⟩ ?_ | refine .inl ⟨_, _, DleAll_refl _, e1, ?_⟩ | refine ⟨_, _, DleAll_refl _, fun _ => e1, ?_⟩ | refine ⟨_, _, DleAll_refl _, e1, ?_⟩ | refine .inl ⟨_, _, DleAll_refl _, e2, ?_⟩ | refine ⟨_, _, DleAll_refl _, fun _ => e2, ?_⟩ | refine ⟨_, _, DleAll_refl _, e2, ?_⟩ | refine .inl ⟨_, _, DleAll_refl _, e3, ?_⟩ | refine ⟨_, _, DleAll_refl _, fun _ => e3, ?_⟩ | refine ⟨_, _, DleAll_refl _, e3, ?_⟩ | refine .inl ⟨_, _, DleAll_refl _, e4, ?_⟩ | refine ⟨_, _, DleAll_refl _, fun _ => e4, ?_⟩ | refine ⟨_, _, DleAll_refl _, e4, ?_⟩ | refine .inl ⟨_, _, DleAll_refl _, e5, ?_⟩ | refine ⟨_, _, DleAll_refl _, fun _ => e5, ?_⟩ | refine ⟨_, _, DleAll_refl _, e5, ?_⟩ | refine .inl ⟨_, _, DleAll_refl _, e6, ?_⟩ | refine ⟨_, _, DleAll_refl _, fun _ => e6, ?_⟩ | refine ⟨_, _, DleAll_refl _, e6, ?_⟩ | refine .inl ⟨_, _, DleAll_refl _, e7, ?_⟩ | refine ⟨_, _, DleAll_refl _, fun _ => e7, ?_⟩ | refine ⟨_, _, DleAll_refl _, e7, ?_⟩ | refine ⟨0, pktE pA1, And.intro ⟨fun h => h, fun _ => ⟨rfl, rfl⟩⟩ ?_⟩ | refine ⟨0, pktE pA1, And.intro ⟨rfl, rfl⟩ ?_⟩ | refine ⟨0, intE 7, And.intro ⟨fun h => h, fun _ => ⟨rfl, rfl⟩⟩ ?_⟩ | refine ⟨0, intE 7, And.intro ⟨rfl, rfl⟩ ?_⟩ | refine ⟨0, pktE rA1, And.intro ⟨fun h => h, fun _ => ⟨rfl, rfl⟩⟩ ?_⟩ | refine ⟨0, pktE rA1, And.intro ⟨rfl, rfl⟩ ?_⟩ | refine Exists.intro false ?_ | (refine And.intro ?_ ?_; focus (simp; done)) | fail)
end Go.Proofs.YtmbniilpgbjcfaaGreat

set_option maxRecDepth 100000
namespace Go.Proofs.YtmbniilpgbjcfaaGreat
open Go.Lift
theorem good_len {v : View} {c : List Int} (h : goodB v c = true) : c.length ≤ 32 := by
  rcases good_iff.1 h with rfl | h
  · exact Nat.zero_le _
  · have := (ids_ne (app_ids (of_decide_eq_true h))).2
    omega
theorem rpt_len {v : View} {r : Rpt} (h : vrB v r = true) : r.cut.length ≤ 32 := by
  rcases vr_cut h with h | h
  · rw [h.2]
    exact Nat.zero_le _
  · exact good_len (good_iff.2 (.inr h.2))
theorem sm_aw {s : Agr} (h : AW s) : SmA s := by
  have hn := view_n h.v
  have hr := reps_16 h.reps
  have ha := reps_16 h.accs
  have hb := box_le h.box
  refine ⟨by omega, by have := good_len h.acut; omega, by have := good_len h.prop; omega, by omega, fun b hb2 => ?_, by omega, fun r hr2 => ?_, by have := good_len h.cho; omega, by omega, fun r hr2 => ?_, by have := good_len h.dec; omega⟩
  · have := good_len (good_iff.2 (.inr (((box_iff h.v).1 h.box).1 b hb2).2))
    omega
  · have := rpt_len (((reps_iff h.v).1 h.reps).1 r hr2)
    omega
  · have := rpt_len (((reps_iff h.v).1 h.accs).1 r hr2)
    omega
theorem nice_rsd {s : Agr} (h : AW s) : ∀ p ∈ rsdA s, PkOk s p := by
  intro p hp
  unfold rsdA at hp
  rw [List.mem_append, List.mem_append] at hp
  rcases hp with (hp | hp) | hp
  · unfold sndV at hp
    cases hc : (cutOf s.box s.self).2
    · rw [hc] at hp
      cases hp
    · rw [hc] at hp
      simp only [cond_true, List.mem_singleton] at hp
      subst hp
      obtain ⟨b, hb, _, he⟩ := cut_some hc
      rw [← he]
      exact pk_vote h (((box_iff h.v).1 h.box).1 b hb).2
  · unfold sndP at hp
    cases h1 : decide (s.phase = 1)
    · cases h2 : decide (s.phase = 2)
      · rw [h1, h2] at hp
        cases hp
      · rw [h1, h2] at hp
        simp only [cond_true, cond_false, List.mem_singleton] at hp
        subst hp
        have h2 := of_decide_eq_true h2
        rcases h.ph with h0 | ⟨h0 | h0, h7⟩
        · omega
        · omega
        · exact pk_accept h h7.1 (good_app h.cho h0.2)
    · rw [h1] at hp
      simp only [cond_true, List.mem_singleton] at hp
      subst hp
      have h1 := of_decide_eq_true h1
      rcases h.ph with h0 | ⟨h0 | h0, h7⟩
      · omega
      · exact pk_prepare h h7.1
      · omega
  · unfold sndA at hp
    cases hb : decide (0 ≤ ofB s.accs s.self) && !decide (s.phase = 2)
    · rw [hb] at hp
      cases hp
    · rw [hb] at hp
      simp only [cond_true, List.mem_singleton] at hp
      subst hp
      obtain ⟨_, hk⟩ := ofr_ix ((Bool.and_eq_true ..).mp hb).1
      have hm : s.accs.getD (ofB s.accs s.self).toNat rpt0 ∈ s.accs := by simp [hk]
      generalize s.accs.getD (ofB s.accs s.self).toNat rpt0 = r at *
      have ha := h.apr r hm
      refine pk_accepted h ha.2 ?_
      rcases vr_cut (((reps_iff h.v).1 h.accs).1 r hm) with h4 | h4
      · omega
      · exact h4.2
theorem rank_own {a m : Int} (h : rankOf a m ≠ 0) : 1 ≤ a ∧ a ≤ 1048575 ∧ rankOf a m = 1024 * a + m ∧ ownerOf (rankOf a m) = m ∧ 1 ≤ m ∧ m ≤ 1000 := by
  by_cases hc : 1 ≤ a ∧ a ≤ 1048575 ∧ 1 ≤ m ∧ m ≤ 1000
  · have e := rankOf_in hc.1 hc.2.1 hc.2.2.1 hc.2.2.2
    refine ⟨hc.1, hc.2.1, e, ?_, hc.2.2.1, hc.2.2.2⟩
    rw [e, owner_in (by omega) (by omega) (by omega)]
    omega
  · exact absurd (rankOf_out hc) h
theorem att_own {s : Agr} (h : AW s) (hn : attRank s ≠ 0) : properB s.view (attRank s) = true ∧ ownerOf (attRank s) = s.self := by
  unfold attRank at hn ⊢
  obtain ⟨_, _, _, h4, h5, _⟩ := rank_own hn
  refine ⟨?_, h4⟩
  unfold properB
  rw [h4, h.self, decide_eq_false (by omega)]
  rfl
theorem rep_own {s : Agr} (h : AW s) : vrB s.view ⟨s.self, s.acc.rank, s.acc.cut⟩ = true := by
  simp only [vrB, h.self, Bool.true_and, Bool.or_eq_true, Bool.and_eq_true, decide_eq_true_eq]
  rcases acc_cut h with ⟨h1, h2⟩ | ⟨h1, h2⟩
  · left
    rw [h2]
    exact ⟨h1, rfl⟩
  · right
    refine ⟨?_, of_decide_eq_true h2⟩
    rcases h1 with h1 | h1
    · exact .inl h1
    · exact .inr (proper_use h1).1
theorem reps_one {v : View} (hv : viewB v = true) {r : Rpt} (h : vrB v r = true) : repsB v [r] = true :=
  (reps_iff hv).2 ⟨fun x hx => by rw [List.mem_singleton.1 hx]; exact h, List.pairwise_singleton ..⟩
def attS (s : Agr) : Agr := { s with acc := ⟨attRank s, s.acc.rank, s.acc.cut⟩, wait := 0, rank := attRank s, phase := 1, cho := [], reps := [⟨s.self, s.acc.rank, s.acc.cut⟩] }
theorem aw_att {s : Agr} (h : AW s) (hp : s.prop ≠ []) (hr : properB s.view (attRank s) = true) (ho : ownerOf (attRank s) = s.self) (hle : s.acc.pro ≤ attRank s) : AW (attS s) := by
  have h1 := aw_prep h hr hle
  have hpos := use_pos (proper_use hr).1
  refine ⟨h.v, h.self, Int.le_refl _, (by show (0 : Int) ≤ _; omega), h1.acc, h1.pro, h1.rk, h1.acut, h.prop, good_iff.2 (.inl rfl), h.dec, h.box, h.own, reps_one h.v (rep_own h), fun r hr2 h0 => ?_, h.accs, h.apr, fun _ => ⟨hr, ho⟩, .inr ⟨.inl ⟨rfl, rfl⟩, ?_, hp, ofb_iff.2 ⟨_, List.mem_singleton.2 rfl, rfl⟩⟩⟩
  · rcases List.mem_singleton.1 hr2 with rfl
    exact h.rk h0
  · show attRank s ≠ 0
    omega
theorem att_cases {s : Agr} (h : AW s) : attA s = s ∨ (properB s.view (attRank s) = true ∧ ownerOf (attRank s) = s.self ∧ s.acc.pro ≤ attRank s ∧ attA s = advA (attS s)) := by
  unfold attA
  cases h0 : decide (attRank s = 0)
  · cases ho : (prepR s.acc (attRank s)).2.2
    · exact .inl rfl
    · obtain ⟨h1, h2⟩ := att_own h (of_decide_eq_false h0)
      obtain ⟨_, hle, e1, e2⟩ := prep_ok h.acc ho
      right
      refine ⟨h1, h2, hle, ?_⟩
      rw [e1, e2]
      rfl
  · exact .inl rfl
theorem ok_att {s : Agr} (h : AW s) (hf : few s) (hp : s.prop ≠ []) : AW (attA s) ∧ few (attA s) ∧ (attA s).view = s.view ∧ (attA s).self = s.self := by
  rcases att_cases h with e | ⟨h1, h2, h3, e⟩
  · rw [e]
    exact ⟨h, hf, rfl, rfl⟩
  · rw [e]
    obtain ⟨a1, a2, a3, a4, _⟩ := ok_adv (aw_att h hp h1 h2 h3)
    exact ⟨a1, a2, a3, a4⟩
theorem wait_in {s : Agr} (h : AW s) : 0 ≤ waitA s ∧ waitA s ≤ 1099511627776 := by
  have h0 := h.w0
  have h1 := h.w1
  unfold waitA
  rw [wrap_i64 (by omega) (by omega)]
  split <;> omega
theorem aw_wait {s : Agr} (h : AW s) {w : Int} (h0 : 0 ≤ w) (h1 : w ≤ 1099511627776) : AW { s with wait := w } :=
  ⟨h.v, h.self, h0, h1, h.acc, h.pro, h.rk, h.acut, h.prop, h.cho, h.dec, h.box, h.own, h.reps, h.rpr, h.accs, h.apr, h.rank, h.ph⟩
theorem ok_step {s : Agr} (h : AW s) (hf : few s) : AW (stepA s) ∧ few (stepA s) ∧ (stepA s).view = s.view ∧ (stepA s).self = s.self := by
  have hw := wait_in h
  have h1 := aw_wait h hw.1 hw.2
  unfold stepA
  by_cases h6 : decide (0 < (s.prop.length : Int)) = true
  · rw [if_pos h6]
    by_cases h7 : dueB s = true
    · rw [if_pos h7]
      exact ok_att h1 hf (len1.1 h6)
    · rw [if_neg h7]
      exact ⟨h1, hf, rfl, rfl⟩
  · rw [if_neg h6]
    exact ⟨h, hf, rfl, rfl⟩
theorem nice_tick {s : Agr} (h : AW s) (hf : few s) : Nice s (tickA s) := by
  have hb : agrB s = true := (agr_iff s).2 ⟨h, hf⟩
  unfold tickA
  rw [if_neg (by rw [hb]; simp)]
  by_cases h5 : decide (0 < (s.dec.length : Int)) = true
  · rw [if_pos h5]
    refine ⟨h, hf, rfl, rfl, fun p hp => ?_⟩
    rcases List.mem_singleton.1 hp with rfl
    exact pk_dec h (good_app h.dec (len1.1 h5))
  · rw [if_neg h5]
    obtain ⟨a1, a2, a3, a4⟩ := ok_step h hf
    refine nice_end (x := (stepA s, rsdA (stepA s))) ⟨a1, a2, a3, a4, fun p hp => ?_⟩
    have := nice_rsd a1 p hp
    exact ⟨by rw [← a3]; exact this.vm, by rw [← a4]; exact this.src, by rw [← a4]; exact this.ne, by rw [← a3]; exact this.to⟩
theorem box_no {s : Agr} (h : AW s) (hp : s.prop = []) : ∀ b ∈ s.box, b.mem ≠ s.self := fun b hb he => by
  have h1 := (own_iff h.v h.box).1 h.own b hb he
  rw [hp] at h1
  exact app_ne (((box_iff h.v).1 h.box).1 b hb).2 h1
theorem prop_cases {s : Agr} (h : AW s) (hf : few s) {cut : List Int} (hok : (propA s cut).2.2 = 0) : s.prop = [] ∧ s.dec = [] ∧ appB s.view cut = true ∧
    (((voteR s.acc cut).2 = true ∧ s.acc.pro = 0 ∧ s.acc.rank = -1 ∧ boxB s.view (insB s.box ⟨s.self, cut⟩) = true ∧ ((propA s cut).1, (propA s cut).2.1) = endA { s with prop := cut, wait := 0, acc := ⟨0, 0, cut⟩, box := insB s.box ⟨s.self, cut⟩ } [pktOf s 0 1 0 0 cut]) ∨
     ((voteR s.acc cut).2 = false ∧ ((propA s cut).1, (propA s cut).2.1) = endA { s with prop := cut, wait := 0 } [])) := by
  have hb : agrB s = true := (agr_iff s).2 ⟨h, hf⟩
  unfold propA at hok ⊢
  cases h1 : !agrB s || !appB s.view cut
  · rw [h1, cond_false] at hok
    rw [cond_false]
    simp only [Bool.or_eq_false_iff, Bool.not_eq_false'] at h1
    cases h2 : decide (0 < (s.prop.length : Int)) || decide (0 < (s.dec.length : Int))
    · rw [cond_false]
      rw [Bool.or_eq_false_iff] at h2
      have hp := len1f.1 h2.1
      refine ⟨hp, len1f.1 h2.2, h1.2, ?_⟩
      cases hv : (voteR s.acc cut).2
      · exact .inr ⟨rfl, rfl⟩
      · left
        obtain ⟨v1, v2, v3, v4⟩ := vote_ok h.acc hv
        have hn := box_no h hp
        have hc : castR s.view s.box ⟨s.self, cut⟩ = (insB s.box ⟨s.self, cut⟩, 0) := by
          unfold castR
          have h3 : decide (0 ≤ ofBal s.box s.self) = false := by
            cases h4 : decide (0 ≤ ofBal s.box s.self)
            · rfl
            · obtain ⟨b, hb, he⟩ := ofb_pos h4
              exact absurd he (hn b hb)
          simp only [h.box, h1.2, h.self, h3]
          rfl
        refine ⟨rfl, v1, v2, box_ins h.v h.box h1.2 h.self hn, ?_⟩
        rw [cond_true, hc, v4]
    · rw [h2] at hok
      simp at hok
  · rw [h1] at hok
    simp at hok
theorem nice_prop {s : Agr} (h : AW s) (hf : few s) {cut : List Int} (hok : (propA s cut).2.2 = 0) : Nice s ((propA s cut).1, (propA s cut).2.1) := by
  obtain ⟨hp, hd, hc, hcase⟩ := prop_cases h hf hok
  have h0 : s.phase = 0 ∧ s.reps = [] ∧ s.cho = [] := by
    rcases h.ph with h0 | h0
    · exact h0
    · exact absurd hp h0.2.2.1
  have hn := box_no h hp
  have hf2 : ∀ t : Agr, t.phase = s.phase → few t := fun t ht e => by
    rw [ht] at e
    omega
  rcases hcase with ⟨_, p1, p2, hb, e⟩ | ⟨_, e⟩
  · rw [e]
    have hA : AW { s with prop := cut, wait := 0, acc := ⟨0, 0, cut⟩, box := insB s.box ⟨s.self, cut⟩ } := ⟨h.v, h.self, Int.le_refl _, (by show (0 : Int) ≤ _; omega), (accB_iff _).2 ⟨.inl rfl, Int.le_refl _, .inr ⟨.inl rfl, by simp, app_ids (of_decide_eq_true hc)⟩⟩, (fun e => absurd rfl e), (fun e => absurd e (Int.lt_irrefl _)), good_iff.2 (.inr hc), good_iff.2 (.inr hc), h.cho, h.dec, hb, (own_iff h.v hb).2 (fun b hb2 he => by
      rcases insB_mem hb2 with rfl | hb2
      · rfl
      · exact absurd he (hn b hb2)), h.reps, h.rpr, h.accs, h.apr, h.rank, .inl h0⟩
    refine nice_end (x := ({ s with prop := cut, wait := 0, acc := ⟨0, 0, cut⟩, box := insB s.box ⟨s.self, cut⟩ }, [pktOf s 0 1 0 0 cut])) ⟨hA, hf2 _ rfl, rfl, rfl, fun p hp2 => ?_⟩
    rcases List.mem_singleton.1 hp2 with rfl
    exact pk_vote h hc
  · rw [e]
    have hA : AW { s with prop := cut, wait := 0 } := ⟨h.v, h.self, Int.le_refl _, (by show (0 : Int) ≤ _; omega), h.acc, h.pro, h.rk, h.acut, good_iff.2 (.inr hc), h.cho, h.dec, h.box, (own_iff h.v h.box).2 (fun b hb2 he => absurd he (hn b hb2)), h.reps, h.rpr, h.accs, h.apr, h.rank, .inl h0⟩
    exact nice_end (x := ({ s with prop := cut, wait := 0 }, [])) ⟨hA, hf2 _ rfl, rfl, rfl, by simp⟩
theorem prop_err {s : Agr} {cut : List Int} (hok : (propA s cut).2.2 ≠ 0) : (propA s cut).1 = agr0 ∧ (propA s cut).2.1 = [] := by
  unfold propA at hok ⊢
  cases h1 : !agrB s || !appB s.view cut
  · cases h2 : decide (0 < (s.prop.length : Int)) || decide (0 < (s.dec.length : Int))
    · rw [h1, h2] at hok
      cases hv : (voteR s.acc cut).2 <;> rw [hv] at hok <;> exact absurd rfl hok
    · exact ⟨rfl, rfl⟩
  · exact ⟨rfl, rfl⟩
theorem rec_err {s : Agr} {m : Msg} (hok : (recA s m).2.2 ≠ 0) : (recA s m).1 = agr0 ∧ (recA s m).2.1 = [] := by
  unfold recA at hok ⊢
  split
  · exact ⟨rfl, rfl⟩
  · split
    · exact ⟨rfl, rfl⟩
    · split
      · exact ⟨rfl, rfl⟩
      · rename_i h1 h2 h3
        rw [if_neg h1, if_neg h2, if_neg h3] at hok
        split at hok <;> exact absurd rfl hok
theorem sm_agr0 : SmA agr0 := smEx (Nat.zero_le _) (Nat.zero_le _) (Nat.zero_le _) (Nat.zero_le _) (fun b hb => by cases hb) rfl (Nat.zero_le _) rfl (Nat.zero_le _)
end Go.Proofs.YtmbniilpgbjcfaaGreat

set_option maxRecDepth 100000
namespace Go.Proofs.YtmbniilpgbjcfaaGreat
open Go.Lift
theorem c_ref8_Votes (l : List Bal) (hl : l.length ≤ 500000) (hc : ∀ b ∈ l, b.cut.length ≤ maxLen) (cut : List Int) : Ret Tryz.prog 128 [.lst 2 (l.map balE) false, .lst 1 (cut.map intE) false] (.v (.int .i64 (votesN l cut))) := by
  refine ret_of_body (fn := Tryz.f128) (c := Tryz.f128.body.getD .skip) hm hT (by kernel_rfl) Tryz.func128 (by kernel_rfl) (by kernel_rfl) (by kernel_rfl) (by kernel_rfl) ?_
  repeat' ((conv => whnf); first | refine And.intro (fun h => h) ?_ | refine dcond_t (by assumption) ?_ | refine dcond_f (by assumption) ?_ | (refine dcond_intro ?_ ?_ <;> intro h) | exact .refl | refine And.intro (by kernel_rfl) ?_ | refine And.intro ⟨fun h => h, fun h => h⟩ ?_ | refine Exists.intro false ?_ | (refine And.intro ?_ ?_; focus (simp; done)) | fail)
  refine ⟨Nat, fun i => ⟨[(0, .lst 2 (l.map balE) false), (1, .lst 1 (cut.map intE) false), (5, i64 (votesN (l.take i) cut)), (6, i64 i)], []⟩, fun i => i ≤ l.length, fun i => l.length - i, [], ⟨0, Nat.zero_le _, ?_⟩, ?_⟩
  · exact ⟨by repeat' ((conv => whnf); first | exact trivial | refine And.intro (by (conv => arg 1; whnf); first | (with_reducible exact .refl) | exact dle_int (wrap_succ (by omega)) | exact .refl) ?_), by repeat' ((conv => whnf); first | exact trivial | refine And.intro ?_ ?_ | exact .refl), rfl⟩
  · intro i hi
    repeat' ((conv => whnf); first | refine And.intro (fun h => h) ?_ | refine dcond_t (by assumption) ?_ | refine dcond_f (by assumption) ?_ | (refine dcond_intro ?_ ?_ <;> intro h) | exact .refl | refine And.intro (by kernel_rfl) ?_ | refine And.intro ⟨fun h => h, fun h => h⟩ ?_ | refine Exists.intro false ?_ | (refine And.intro ?_ ?_; focus (simp; done)) | fail)
    · have hlt : i < l.length := by simpa using h
      clear h
      have hcc := hc _ (List.getElem_mem hlt)
      have hle := votes_le l cut i
      repeat' ((conv => whnf); first | refine And.intro (fun h => h) ?_ | refine dcond_t (by assumption) ?_ | refine dcond_f (by assumption) ?_ | (refine dcond_intro ?_ ?_ <;> intro h) | exact .refl | refine And.intro (by kernel_rfl) ?_ | refine And.intro ⟨fun h => h, fun h => h⟩ ?_ | refine ⟨_, _, And.intro ⟨rfl, get_map hlt⟩ ?_⟩ | refine .inl ⟨_, _, DleAll_refl _, c_ref1_SameInts _ _ hcc, ?_⟩ | refine ⟨_, _, DleAll_refl _, fun _ => c_ref1_SameInts _ _ hcc, ?_⟩ | refine ⟨_, _, DleAll_refl _, c_ref1_SameInts _ _ hcc, ?_⟩ | refine Exists.intro false ?_ | (refine And.intro ?_ ?_; focus (simp; done)) | fail)
      all_goals (conv => whnf)
      all_goals refine ⟨i + 1, hlt, by simp only []; omega, ?_⟩
      · refine ⟨⟨.refl, .refl, ?_, dle_int (wrap_succ (by omega)), trivial⟩, trivial, rfl⟩
        rw [votes_in hlt h]
        exact dle_int (wrap_succ (by omega))
      · refine ⟨⟨.refl, .refl, ?_, dle_int (wrap_succ (by omega)), trivial⟩, trivial, rfl⟩
        rw [votes_out hlt h]
        exact .refl
    · have hge : ¬ i < l.length := by simpa using h
      have : i = l.length := by omega
      subst this
      conv => whnf
      rw [List.take_length]
      exact .refl
theorem win_at {v : View} {l : List Bal} (hb : boxB v l = true) {i : Nat} (hi : i < l.length) (h : decide (fastB v.mem.length ≤ (votesN l l[i].cut : Int)) = true) (hall : ∀ j (hj : j < l.length), j < i → decide (fastB v.mem.length ≤ (votesN l l[j].cut : Int)) = false) : winR v l = (l[i].cut, true) := by
  have hf : l.find? (fun b => decide (fastB v.mem.length ≤ (votesN l b.cut : Int))) = some l[i] :=
    List.find?_eq_some_iff_getElem.2 ⟨h, i, hi, rfl, fun j hj => by simpa using hall j (by omega) hj⟩
  unfold winR
  rw [hb, hf]
  rfl
theorem win_none {v : View} {l : List Bal} (hall : boxB v l = true → ∀ j (hj : j < l.length), decide (fastB v.mem.length ≤ (votesN l l[j].cut : Int)) = false) : winR v l = ([], false) := by
  unfold winR
  cases hb : boxB v l
  · rfl
  · have hf : l.find? (fun b => decide (fastB v.mem.length ≤ (votesN l b.cut : Int))) = none := List.find?_eq_none.2 fun x hx => by
      obtain ⟨j, hj, rfl⟩ := List.getElem_of_mem hx
      rw [hall hb j hj]
      simp
    rw [hf]
    rfl
theorem c_ref8_Winner (v : View) (hv : v.mem.length ≤ 500000) (l : List Bal) (hl : l.length ≤ 500000) (hc : ∀ b ∈ l, b.cut.length ≤ 500000) : Ret Tryz.prog 119 [.agg (viewE v), .lst 2 (l.map balE) false] (.tup [.lst 1 ((winR v l).1.map intE) false, .v (.bool (winR v l).2)]) := by
  have hlm : l.length ≤ maxLen := Nat.le_trans hl (by decide)
  have e1 := c_ref8_Valid v hv l hlm hc
  have ef : Ret Tryz.prog 122 [i64 ((v.mem.map intE).length : Int)] (i64 (fastB v.mem.length)) := by
    rw [List.length_map]
    exact c_ref3_FastQuorum _
  have hat := fun h i hi => @win_at v l h i hi
  have hno := @win_none v l
  generalize winR v l = W at *
  generalize boxB v l = B at *
  refine ret_of_body (fn := Tryz.f119) (c := Tryz.f119.body.getD .skip) hm hT (by kernel_rfl) Tryz.func119 (by kernel_rfl) (by kernel_rfl) (by kernel_rfl) (by kernel_rfl) ?_
  repeat' ((conv => whnf); first | refine And.intro (fun h => h) ?_ | refine dcond_t (by assumption) ?_ | refine dcond_f (by assumption) ?_ | (refine dcond_intro ?_ ?_ <;> intro h) | exact .refl | refine And.intro (by kernel_rfl) ?_ | refine And.intro ⟨fun h => h, fun h => h⟩ ?_ | refine Exists.intro false ?_ | (refine And.intro ?_ ?_; focus (simp; done)) | fail)
  refine ⟨Nat, fun i => ⟨[(1, .lst 2 (l.map balE) false), (2, .lp 0 0), (6, i64 i)], [.cells 24 (viewE v)]⟩, fun i => i ≤ l.length ∧ ∀ j (hj : j < l.length), j < i → decide (fastB v.mem.length ≤ (votesN l l[j].cut : Int)) = false, fun i => l.length - i, [], ⟨0, ⟨Nat.zero_le _, by omega⟩, ?_⟩, ?_⟩
  · exact ⟨by repeat' ((conv => whnf); first | exact trivial | refine And.intro (by (conv => arg 1; whnf); first | (with_reducible exact .refl) | exact dle_int (wrap_succ (by omega)) | exact .refl) ?_), by repeat' ((conv => whnf); first | exact trivial | refine And.intro ?_ ?_ | exact .refl), rfl⟩
  · intro i ⟨hi, hall⟩
    repeat' ((conv => whnf); first | refine And.intro (fun h => h) ?_ | refine dcond_t (by assumption) ?_ | refine dcond_f (by assumption) ?_ | (refine dcond_intro ?_ ?_ <;> intro h) | exact .refl | refine And.intro (by kernel_rfl) ?_ | refine And.intro ⟨fun h => h, fun h => h⟩ ?_ | refine .inl ⟨_, _, DleAll_refl _, e1, ?_⟩ | refine ⟨_, _, DleAll_refl _, fun _ => e1, ?_⟩ | refine ⟨_, _, DleAll_refl _, e1, ?_⟩ | refine Exists.intro false ?_ | (refine And.intro ?_ ?_; focus (simp; done)) | fail)
    all_goals (conv => whnf)
    · have hlt : i < l.length := by
        have := ((Bool.and_eq_true ..).mp h).1
        simpa using this
      have hB := ((Bool.and_eq_true ..).mp h).2
      clear h
      have ev := c_ref8_Votes l hl (fun b hb => by have := hc b hb; simp only [maxLen]; omega) l[i].cut
      repeat' ((conv => whnf); first | refine And.intro (fun h => h) ?_ | refine dcond_t (by assumption) ?_ | refine dcond_f (by assumption) ?_ | (refine dcond_intro ?_ ?_ <;> intro h) | exact .refl | refine And.intro (by kernel_rfl) ?_ | refine And.intro ⟨fun h => h, fun h => h⟩ ?_ | refine ⟨_, _, And.intro ⟨rfl, get_map hlt⟩ ?_⟩ | refine .inl ⟨_, _, DleAll_refl _, ev, ?_⟩ | refine ⟨_, _, DleAll_refl _, fun _ => ev, ?_⟩ | refine ⟨_, _, DleAll_refl _, ev, ?_⟩ | refine .inl ⟨_, _, DleAll_refl _, ef, ?_⟩ | refine ⟨_, _, DleAll_refl _, fun _ => ef, ?_⟩ | refine ⟨_, _, DleAll_refl _, ef, ?_⟩ | refine Exists.intro false ?_ | (refine And.intro ?_ ?_; focus (simp; done)) | fail)
      all_goals (conv => whnf)
      · rw [hat hB i hlt h hall]
        exact .refl
      · refine ⟨i + 1, ⟨hlt, fun j hj hji => ?_⟩, by simp only []; omega, ?_⟩
        · rcases Nat.lt_succ_iff_lt_or_eq.1 hji with h1 | rfl
          · exact hall j hj h1
          · exact h
        · exact ⟨by repeat' ((conv => whnf); first | exact trivial | refine And.intro (by (conv => arg 1; whnf); first | (with_reducible exact .refl) | exact dle_int (wrap_succ (by omega)) | exact .refl) ?_), by repeat' ((conv => whnf); first | exact trivial | refine And.intro ?_ ?_ | exact .refl), rfl⟩
    · rw [hno (fun hB j hj => hall j hj (by
        rw [hB, Bool.and_true] at h
        have : ¬ i < l.length := by simpa using h
        omega))]
      exact dle_tupA ⟨.nl, .refl, trivial⟩
theorem c_ref8_Cast (v : View) (hv : v.mem.length ≤ 400000) (l : List Bal) (hl : l.length ≤ 400000) (hc : ∀ b ∈ l, b.cut.length ≤ 400000) (b : Bal) (hb : b.cut.length ≤ 400000) : Ret Tryz.prog 27 [.agg (viewE v), .lst 2 (l.map balE) false, .agg (balE b)] (.tup [.lst 2 ((castR v l b).1.map balE) false, i64 (castR v l b).2]) := by
  have hlm : l.length ≤ maxLen := Nat.le_trans hl (by decide)
  have hvm : v.mem.length ≤ maxLen := Nat.le_trans hv (by decide)
  have e1 := c_ref8_Valid v (by omega) l hlm (fun b hb => by have := hc b hb; omega)
  have e2 : Ret Tryz.prog 25 [.agg (viewE v), .lst 1 (b.cut.map intE) false] (.v (.bool (appB v b.cut))) := c_ref3_Applicable _ (by omega) _ (by omega)
  have e3 := c_ref3_Contains v.mem hvm b.mem
  have e4 := c_ref8_Of l hlm b.mem
  have hneg := @ofb_neg l b.mem
  have hR : castR v l b = bif !boxB v l || !appB v b.cut then ([], 1) else bif !inB v.mem b.mem then ([], 6) else bif decide (0 ≤ ofBal l b.mem) then ([], 7) else (insB l b, 0) := rfl
  generalize castR v l b = R at *
  generalize boxB v l = B1 at *
  generalize appB v b.cut = B2 at *
  generalize inB v.mem b.mem = B3 at *
  generalize ofBal l b.mem = K at *
  refine ret_of_body (fn := Tryz.f27) (c := Tryz.f27.body.getD .skip) hm hT (by kernel_rfl) Tryz.func27 (by kernel_rfl) (by kernel_rfl) (by kernel_rfl) (by kernel_rfl) ?_
  repeat' ((conv => whnf); first | refine And.intro (fun h => h) ?_ | refine dcond_t (by assumption) ?_ | refine dcond_f (by assumption) ?_ | (refine dcond_intro ?_ ?_ <;> intro h) | exact .refl | refine And.intro (by kernel_rfl) ?_ | refine And.intro ⟨fun h => h, fun h => h⟩ ?_ | refine .inl ⟨_, _, DleAll_refl _, e1, ?_⟩ | refine ⟨_, _, DleAll_refl _, fun _ => e1, ?_⟩ | refine ⟨_, _, DleAll_refl _, e1, ?_⟩ | refine .inl ⟨_, _, DleAll_refl _, e2, ?_⟩ | refine ⟨_, _, DleAll_refl _, fun _ => e2, ?_⟩ | refine ⟨_, _, DleAll_refl _, e2, ?_⟩ | refine .inl ⟨_, _, DleAll_refl _, e3, ?_⟩ | refine ⟨_, _, DleAll_refl _, fun _ => e3, ?_⟩ | refine ⟨_, _, DleAll_refl _, e3, ?_⟩ | refine .inl ⟨_, _, DleAll_refl _, e4, ?_⟩ | refine ⟨_, _, DleAll_refl _, fun _ => e4, ?_⟩ | refine ⟨_, _, DleAll_refl _, e4, ?_⟩ | refine Exists.intro false ?_ | (refine And.intro ?_ ?_; focus (simp; done)) | fail)
  all_goals (conv => whnf)
  all_goals simp only [*, cond_true, cond_false] at hR
  all_goals subst hR
  · exact dle_tupA ⟨.nl, .refl, trivial⟩
  · exact dle_tupA ⟨.nl, .refl, trivial⟩
  · exact dle_tupA ⟨.nl, .refl, trivial⟩
  · have hn := hneg h
    clear h hneg e1 e2 e3 e4
    refine ⟨Nat, fun i => ⟨[(1, .lst 2 (l.map balE) false), (5, .lp 1 0), (8, .own 2), (9, .v (.bool (decide (frontB l b.mem < i)))), (10, i64 i)], [.cells 24 (viewE v), .cells 63 (balE b), .row 63 2 ((putB l b i).map balE)]⟩, fun i => i ≤ l.length, fun i => l.length - i, [.slot 8 63 2], ⟨0, Nat.zero_le _, ?_⟩, ?_⟩
    · conv => whnf
      exact ⟨by repeat' ((conv => whnf); first | exact trivial | refine And.intro (by (conv => arg 1; whnf); first | (with_reducible exact .refl) | exact dle_int (wrap_succ (by omega)) | exact .refl) ?_), by repeat' ((conv => whnf); first | exact trivial | refine And.intro ?_ ?_ | exact .refl), rfl⟩
    · intro i hi
      have hpl := putb_len l b i
      repeat' ((conv => whnf); first | refine And.intro (fun h => h) ?_ | refine dcond_t (by assumption) ?_ | refine dcond_f (by assumption) ?_ | (refine dcond_intro ?_ ?_ <;> intro h) | exact .refl | refine And.intro (by kernel_rfl) ?_ | refine And.intro ⟨fun h => h, fun h => h⟩ ?_ | refine Exists.intro false ?_ | (refine And.intro ?_ ?_; focus (simp; done)) | fail)
      all_goals (conv => whnf)
      · have hlt : i < l.length := by simpa using h
        clear h
        have hne := hn _ (List.getElem_mem hlt)
        have hgx : (l.map balE)[i]? = some (balE l[i]) := get_map hlt
        have hcmp : decide (b.mem < l[i].mem) = decide (b.mem ≤ l[i].mem) := by
          by_cases h0 : b.mem < l[i].mem
          · rw [decide_eq_true h0, decide_eq_true (by omega)]
          · rw [decide_eq_false h0, decide_eq_false (by omega)]
        have hnow := @putb_now l b i hlt
        have hnot := @putb_not l b i hlt
        rw [← hcmp] at hnow hnot
        have hs1 := @putb_step1 l b i hlt
        have hs2 := @putb_step2 l b i hlt
        have hfl := @putb_flag l b i
        have hf1 : frontB l b.mem = i → decide (frontB l b.mem < i + 1) = true := fun e => by simp; omega
        obtain ⟨x, hx⟩ : ∃ x, x = l[i] := ⟨_, rfl⟩
        rw [← hx] at hgx hnow hnot hs1 hs2
        repeat' ((conv => whnf); first | refine And.intro (fun h => h) ?_ | refine dcond_t (by assumption) ?_ | refine dcond_f (by assumption) ?_ | (refine dcond_intro ?_ ?_ <;> intro h) | exact .refl | refine And.intro (by kernel_rfl) ?_ | refine And.intro ⟨fun h => h, fun h => h⟩ ?_ | refine ⟨i, balE x, And.intro ⟨rfl, hgx⟩ ?_⟩ | refine ⟨i, balE x, And.intro ⟨⟨fun h => h, fun h => h⟩, fun hg => ⟨rfl, hgx⟩⟩ ?_⟩ | refine And.intro (fits2 (by simp <;> omega)) ?_ | refine Exists.intro false ?_ | (refine And.intro ?_ ?_; focus (simp; done)) | fail)
        all_goals (conv => whnf)
        · have e := hnow h
          refine ⟨i + 1, hlt, by simp only []; omega, ?_⟩
          conv => whnf
          refine ⟨⟨.refl, .refl, .refl, dle_bool (hf1 e).symm, dle_int (wrap_succ (by omega)), trivial⟩, ⟨.refl, .refl, ole_row ?_, trivial⟩, by rfl⟩
          rw [← hs1 e]
          simp [balE, dcells]
        · have e := hnot h
          refine ⟨i + 1, hlt, by simp only []; omega, ?_⟩
          conv => whnf
          refine ⟨⟨.refl, .refl, .refl, dle_bool (hfl e), dle_int (wrap_succ (by omega)), trivial⟩, ⟨.refl, .refl, ole_row ?_, trivial⟩, by rfl⟩
          rw [← hs2 e]
          simp [balE, dcells]
      all_goals
        rename_i hge0
        have hge : ¬ i < l.length := by simpa using hge0
        have : i = l.length := by omega
        subst this
        clear hge0
        repeat' ((conv => whnf); first | refine And.intro (fun h => h) ?_ | refine dcond_t (by assumption) ?_ | refine dcond_f (by assumption) ?_ | (refine dcond_intro ?_ ?_ <;> intro h) | exact .refl | refine And.intro (by kernel_rfl) ?_ | refine And.intro ⟨fun h => h, fun h => h⟩ ?_ | refine And.intro (fits2 (by simp <;> omega)) ?_ | refine Exists.intro false ?_ | (refine And.intro ?_ ?_; focus (simp; done)) | fail)
        all_goals (conv => whnf)
        refine dle_tupA ⟨dle_lst ?_, .refl, trivial⟩
        first
          | (rw [← putb_end1 (by assumption)])
          | (rw [← putb_end2 (by simpa using (by assumption : (!decide (frontB l b.mem < l.length)) = true))]; simp [balE, dcells])
          | (rw [← putb_end1 (by simpa using (by assumption : (!decide (frontB l b.mem < l.length)) = false))])
          | fail
end Go.Proofs.YtmbniilpgbjcfaaGreat

set_option maxRecDepth 100000
namespace Go.Proofs.YtmbniilpgbjcfaaGreat
open Go.Lift
def ptO (l : List Rpt) (r : Rpt) : Nat → List Rpt × Bool
  | 0 => ([], false)
  | i + 1 => (bif decide ((l.getD i rpt0).mem = r.mem) then (bif !(ptO l r i).2 && decide (r.mem ≤ (l.getD i rpt0).mem) then (ptO l r i).1 ++ [r] else (ptO l r i).1) else (bif !(ptO l r i).2 && decide (r.mem ≤ (l.getD i rpt0).mem) then (ptO l r i).1 ++ [r] else (ptO l r i).1) ++ [l.getD i rpt0], (ptO l r i).2 || decide (r.mem ≤ (l.getD i rpt0).mem))
def putG (l : List Rpt) (r : Rpt) : List Rpt := bif (ptO l r l.length).2 then (ptO l r l.length).1 else (ptO l r l.length).1 ++ [r]
theorem ptO_len (l : List Rpt) (r : Rpt) : ∀ i, (ptO l r i).1.length ≤ 2 * i
  | 0 => Nat.le_refl _
  | i + 1 => by
    have := ptO_len l r i
    unfold ptO
    cases decide ((l.getD i rpt0).mem = r.mem) <;> cases !(ptO l r i).2 && decide (r.mem ≤ (l.getD i rpt0).mem) <;> simp <;> omega
theorem ptO_at {l : List Rpt} {r : Rpt} (hp : List.Pairwise (fun a b : Rpt => a.mem < b.mem) l) {k : Nat} (hk : k < l.length) (he : l[k].mem = r.mem) : ∀ i, i ≤ l.length → ptO l r i = if i ≤ k then (l.take i, false) else (l.take k ++ [r] ++ (l.take i).drop (k + 1), true)
  | 0, _ => by simp [ptO]
  | i + 1, hi => by
    have hi2 : i < l.length := by omega
    have ih := ptO_at hp hk he i (by omega)
    have hg : l.getD i rpt0 = l[i] := by simp [hi2]
    rw [List.pairwise_iff_getElem] at hp
    have ht : l.take (i + 1) = l.take i ++ [l[i]] := List.take_succ_eq_append_getElem hi2
    unfold ptO
    rw [ih, hg]
    rcases Nat.lt_trichotomy i k with h | h | h
    · have := hp i k hi2 hk h
      rw [if_pos (by omega), if_pos (by omega), decide_eq_false (show ¬ l[i].mem = r.mem by omega), decide_eq_false (show ¬ r.mem ≤ l[i].mem by omega), ht]
      rfl
    · subst h
      rw [if_pos (Nat.le_refl _), if_neg (by omega), decide_eq_true he, decide_eq_true (show r.mem ≤ l[i].mem by omega)]
      simp
    · have := hp k i hk hi2 h
      rw [if_neg (by omega), if_neg (by omega), decide_eq_false (show ¬ l[i].mem = r.mem by omega), ht]
      have hd : (l.take i ++ [l[i]]).drop (k + 1) = (l.take i).drop (k + 1) ++ [l[i]] := by
        rw [List.drop_append_of_le_length (by simp; omega)]
      rw [hd]
      simp
theorem putG_set {l : List Rpt} {r : Rpt} (hp : List.Pairwise (fun a b : Rpt => a.mem < b.mem) l) {k : Nat} (hk : k < l.length) (he : l[k].mem = r.mem) : putG l r = l.set k r := by
  unfold putG
  rw [ptO_at hp hk he l.length (Nat.le_refl _), if_neg (by omega), List.take_length, List.set_eq_take_append_cons_drop, if_pos hk]
  simp
set_option maxRecDepth 100000 in
theorem c_ref9_PutG (l : List Rpt) (hl : l.length ≤ 400000) (r : Rpt) : Ret Tryz.prog 98 [.lst 3 (l.map rptE) false, .agg (rptE r)] (.lst 3 ((putG l r).map rptE) false) := by
  refine ret_of_body (fn := Tryz.f98) (c := Tryz.f98.body.getD .skip) hm hT (by kernel_rfl) Tryz.func98 (by kernel_rfl) (by kernel_rfl) (by kernel_rfl) (by kernel_rfl) ?_
  repeat' ((conv => whnf); first | refine And.intro (fun h => h) ?_ | refine dcond_t (by assumption) ?_ | refine dcond_f (by assumption) ?_ | (refine dcond_intro ?_ ?_ <;> intro h) | exact .refl | refine And.intro (by kernel_rfl) ?_ | refine And.intro ⟨fun h => h, fun h => h⟩ ?_ | refine Exists.intro false ?_ | (refine And.intro ?_ ?_; focus (simp; done)) | fail)
  refine ⟨Nat, fun i => ⟨[(0, .lst 3 (l.map rptE) false), (3, .lp 0 0), (5, .own 1), (6, .v (.bool (ptO l r i).2)), (7, i64 i)], [.cells 51 (rptE r), .row 51 3 ((ptO l r i).1.map rptE)]⟩, fun i => i ≤ l.length, fun i => l.length - i, [.slot 5 51 3], ⟨0, Nat.zero_le _, ?_⟩, ?_⟩
  · conv => whnf
    exact ⟨by repeat' ((conv => whnf); first | exact trivial | refine And.intro (by (conv => arg 1; whnf); first | (with_reducible exact .refl) | exact dle_int (wrap_succ (by omega)) | exact .refl) ?_), by repeat' ((conv => whnf); first | exact trivial | refine And.intro ?_ ?_ | exact .refl), rfl⟩
  · intro i hi
    have hpl := ptO_len l r i
    have hstep : ptO l r (i + 1) = (bif decide ((l.getD i rpt0).mem = r.mem) then (bif !(ptO l r i).2 && decide (r.mem ≤ (l.getD i rpt0).mem) then (ptO l r i).1 ++ [r] else (ptO l r i).1) else (bif !(ptO l r i).2 && decide (r.mem ≤ (l.getD i rpt0).mem) then (ptO l r i).1 ++ [r] else (ptO l r i).1) ++ [l.getD i rpt0], (ptO l r i).2 || decide (r.mem ≤ (l.getD i rpt0).mem)) := rfl
    have hend : i = l.length → putG l r = bif (ptO l r i).2 then (ptO l r i).1 else (ptO l r i).1 ++ [r] := fun e => by subst e; rfl
    repeat' ((conv => whnf); first | refine And.intro (fun h => h) ?_ | refine dcond_t (by assumption) ?_ | refine dcond_f (by assumption) ?_ | (refine dcond_intro ?_ ?_ <;> intro h) | exact .refl | refine And.intro (by kernel_rfl) ?_ | refine And.intro ⟨fun h => h, fun h => h⟩ ?_ | refine Exists.intro false ?_ | (refine And.intro ?_ ?_; focus (simp; done)) | fail)
    all_goals (conv => whnf)
    all_goals (generalize ptO l r i = O at *)
    · have hlt : i < l.length := by simpa using h
      clear h hend
      have hg : l.getD i rpt0 = l[i] := by simp [hlt]
      rw [hg] at hstep
      have hgx : (l.map rptE)[i]? = some (rptE l[i]) := get_map hlt
      obtain ⟨x, hx⟩ : ∃ x, x = l[i] := ⟨_, rfl⟩
      rw [← hx] at hstep hgx
      repeat' ((conv => whnf); first | refine And.intro (fun h => h) ?_ | refine dcond_t (by assumption) ?_ | refine dcond_f (by assumption) ?_ | (refine dcond_intro ?_ ?_ <;> intro h) | exact .refl | refine And.intro (by kernel_rfl) ?_ | refine And.intro ⟨fun h => h, fun h => h⟩ ?_ | refine ⟨i, rptE x, And.intro ⟨rfl, hgx⟩ ?_⟩ | refine ⟨i, rptE x, And.intro ⟨⟨fun h => h, fun h => h⟩, fun hg => ⟨rfl, hgx⟩⟩ ?_⟩ | refine And.intro (fitsR (by simp <;> omega)) ?_ | refine Exists.intro false ?_ | (refine And.intro ?_ ?_; focus (simp; done)) | fail)
      all_goals (conv => whnf)
      all_goals
        rename_i h1
        refine ⟨i + 1, hlt, by simp only []; omega, ?_⟩
        conv => whnf
        refine ⟨⟨.refl, .refl, .refl, dle_bool ?_, dle_int (wrap_succ (by omega)), trivial⟩, ⟨.refl, ole_row ?_, trivial⟩, by rfl⟩
      all_goals
        rw [hstep]
        generalize decide (r.mem ≤ x.mem) = D at *
        generalize decide (x.mem = r.mem) = E at *
        obtain ⟨o1, o2⟩ := O
        cases o2 <;> cases D <;> cases E <;> simp_all [rptE, dcells]
    all_goals
      have hge : ¬ i < l.length := by
        rename_i h5
        simpa using h5
      have hend := hend (by omega)
      repeat' ((conv => whnf); first | refine And.intro (fun h => h) ?_ | refine dcond_t (by assumption) ?_ | refine dcond_f (by assumption) ?_ | (refine dcond_intro ?_ ?_ <;> intro h) | exact .refl | refine And.intro (by kernel_rfl) ?_ | refine And.intro ⟨fun h => h, fun h => h⟩ ?_ | refine And.intro (fitsR (by simp <;> omega)) ?_ | refine Exists.intro false ?_ | (refine And.intro ?_ ?_; focus (simp; done)) | fail)
      all_goals (conv => whnf)
      all_goals
        refine dle_lst ?_
        rw [hend]
        obtain ⟨o1, o2⟩ := O
        cases o2 <;> simp_all [rptE, dcells]
end Go.Proofs.YtmbniilpgbjcfaaGreat

set_option maxRecDepth 100000
namespace Go.Proofs.YtmbniilpgbjcfaaGreat
open Go.Lift
theorem add_new {v : View} {l : List Rpt} {r : Rpt} (h : repsB v l = true) (hr : vrB v r = true) (hn : ∀ x ∈ l, x.mem ≠ r.mem) : (addR v l r).1 = insR l r := by
  have hv : viewB v = true := by
    simp only [repsB, Bool.and_eq_true] at h
    exact h.1
  obtain ⟨h1, h2⟩ := (reps_iff hv).1 h
  have h3 : repsB v (insR l r) = true := (reps_iff hv).2 ⟨fun x hx => by
    rcases insR_mem hx with rfl | hx
    · exact hr
    · exact h1 x hx, (ins_pair h2).2 hn⟩
  unfold addR
  rw [h, h3]
  rfl
theorem c_ref10_enter (v : View) (l : List Rpt) (hl : l.length ≤ 400000) (hok : repsB v l = true) (r : Rpt) (hr : vrB v r = true) : Ret Tryz.prog 42 [.lst 3 (l.map rptE) false, .agg (rptE r)] (.lst 3 ((enterR v l r).map rptE) false) := by
  have hlm : l.length ≤ maxLen := Nat.le_trans hl (by decide)
  have e1 := c_ref9_Of l hlm r.mem
  have e2 := c_ref9_PutG l hl r
  have e3 := fun h => c_ref9_Put l hl r h
  have hv : viewB v = true := by
    simp only [repsB, Bool.and_eq_true] at hok
    exact hok.1
  have hp := ((reps_iff hv).1 hok).2
  have hix := @ofr_ix l r.mem
  have hat := @of_at l r.mem
  have hneg := @of_neg l r.mem
  have hy1 : decide (0 ≤ ofB l r.mem) = true → decide ((l.getD (ofB l r.mem).toNat rpt0).rank < r.rank) = true → enterR v l r = putG l r := fun h1 h2 => by
    obtain ⟨_, hk⟩ := hix h1
    have hm := hat h1
    rw [show l.getD (ofB l r.mem).toNat rpt0 = l[(ofB l r.mem).toNat] by simp [hk]] at hm
    rw [enterR, h1, h2, putG_set hp hk hm]
    rfl
  have hy2 : decide (0 ≤ ofB l r.mem) = true → decide ((l.getD (ofB l r.mem).toNat rpt0).rank < r.rank) = false → enterR v l r = l := fun h1 h2 => by rw [enterR, h1, h2]; rfl
  have hy3 : decide (0 ≤ ofB l r.mem) = false → enterR v l r = insR l r := fun h1 => by
    rw [enterR, h1, ← add_new hok hr (hneg h1)]
    rfl
  have e4 : decide (0 ≤ ofB l r.mem) = false → Ret Tryz.prog 98 [.lst 3 (l.map rptE) false, .agg (rptE r)] (.lst 3 ((enterR v l r).map rptE) false) := fun h => by
    rw [hy3 h]
    exact e3 (hneg h)
  have e5 : decide (0 ≤ ofB l r.mem) = true → decide ((l.getD (ofB l r.mem).toNat rpt0).rank < r.rank) = true → Ret Tryz.prog 98 [.lst 3 (l.map rptE) false, .agg (rptE r)] (.lst 3 ((enterR v l r).map rptE) false) := fun h1 h2 => by
    rw [hy1 h1 h2]
    exact e2
  clear hy1 hy3 e2 e3 hat hneg
  have hgx : decide (0 ≤ ofB l r.mem) = true → (l.map rptE)[(ofB l r.mem).toNat]? = some (rptE (l.getD (ofB l r.mem).toNat rpt0)) := fun h => by
    have := (hix h).2
    simp [this]
  have hk0 : decide (0 ≤ ofB l r.mem) = true → ofB l r.mem = ((ofB l r.mem).toNat : Int) := fun h => (hix h).1
  generalize l.getD (ofB l r.mem).toNat rpt0 = X at *
  generalize ofB l r.mem = K at *
  generalize enterR v l r = E at *
  have e6 : (decide (0 ≤ K) && decide (r.rank ≤ X.rank)) = false → Ret Tryz.prog 98 [.lst 3 (l.map rptE) false, .agg (rptE r)] (.lst 3 (E.map rptE) false) := fun h => by
    cases hk : decide (0 ≤ K)
    · exact e4 hk
    · rw [hk, Bool.true_and] at h
      exact e5 hk (decide_eq_true (by have := of_decide_eq_false h; omega))
  refine ret_of_body (fn := Tryz.f42) (c := Tryz.f42.body.getD .skip) hm hT (by kernel_rfl) Tryz.func42 (by kernel_rfl) (by kernel_rfl) (by kernel_rfl) (by kernel_rfl) ?_
  repeat' ((conv => whnf); first | refine And.intro (fun h => h) ?_ | refine dcond_t (by assumption) ?_ | refine dcond_f (by assumption) ?_ | (refine dcond_intro ?_ ?_ <;> intro h) | exact .refl | refine And.intro (by kernel_rfl) ?_ | refine And.intro ⟨fun h => h, fun h => h⟩ ?_ | refine .inl ⟨_, _, DleAll_refl _, e1, ?_⟩ | refine ⟨_, _, DleAll_refl _, fun _ => e1, ?_⟩ | refine ⟨_, _, DleAll_refl _, e1, ?_⟩ | refine .inl ⟨_, _, DleAll_refl _, e6 (by assumption), ?_⟩ | refine ⟨_, _, DleAll_refl _, fun _ => e6 (by assumption), ?_⟩ | refine ⟨_, _, DleAll_refl _, e6 (by assumption), ?_⟩ | refine ⟨K.toNat, rptE X, And.intro ⟨⟨fun h => h, fun h => h⟩, fun hg => ⟨hk0 hg, hgx hg⟩⟩ ?_⟩ | refine Exists.intro false ?_ | (refine And.intro ?_ ?_; focus (simp; done)) | fail)
  all_goals (conv => whnf)
  rw [Bool.and_eq_true] at h
  rw [hy2 h.1 (decide_eq_false (by have := of_decide_eq_true h.2; omega))]
  exact .refl
def bestD (l : List Rpt) (m : Int) : Nat → Int
  | 0 => -1
  | i + 1 => bif decide (m ≤ (vA l (l.getD i rpt0) l.length : Int)) && (decide (bestD l m i < 0) || decide ((l.getD (bestD l m i).toNat rpt0).rank < (l.getD i rpt0).rank)) then (i : Int) else bestD l m i
theorem best_in (l : List Rpt) (m : Int) : ∀ i, bestD l m i = -1 ∨ ∃ k : Nat, k < i ∧ bestD l m i = (k : Int)
  | 0 => .inl rfl
  | i + 1 => by
    unfold bestD
    cases decide (m ≤ (vA l (l.getD i rpt0) l.length : Int)) && (decide (bestD l m i < 0) || decide ((l.getD (bestD l m i).toNat rpt0).rank < (l.getD i rpt0).rank))
    · rcases best_in l m i with h | ⟨k, h1, h2⟩
      · exact .inl h
      · exact .inr ⟨k, by omega, h2⟩
    · exact .inr ⟨i, by omega, rfl⟩
theorem best_acc {l : List Rpt} (hr : ∀ r ∈ l, 1 ≤ r.rank) (m : Int) : ∀ i, i ≤ l.length → (bestD l m i < 0 → accAt l m i = (0, [])) ∧ (0 ≤ bestD l m i → accAt l m i = ((l.getD (bestD l m i).toNat rpt0).rank, (l.getD (bestD l m i).toNat rpt0).cut))
  | 0, _ => ⟨fun _ => rfl, fun h => by simp [bestD] at h⟩
  | i + 1, hi => by
    obtain ⟨h1, h2⟩ := best_acc hr m i (by omega)
    have hg : l.getD i rpt0 = l[i] := by simp [show i < l.length by omega]
    have hri := hr _ (List.getElem_mem (show i < l.length by omega))
    have hc : decide ((accAt l m i).1 < (l.getD i rpt0).rank) = (decide (bestD l m i < 0) || decide ((l.getD (bestD l m i).toNat rpt0).rank < (l.getD i rpt0).rank)) := by
      by_cases h0 : bestD l m i < 0
      · rw [h1 h0, decide_eq_true h0, hg]
        simp only [Bool.true_or]
        exact decide_eq_true (by omega)
      · rw [h2 (by omega), decide_eq_false h0, Bool.false_or]
    unfold accAt bestD
    rw [hc]
    cases decide (m ≤ (vA l (l.getD i rpt0) l.length : Int)) && (decide (bestD l m i < 0) || decide ((l.getD (bestD l m i).toNat rpt0).rank < (l.getD i rpt0).rank))
    · exact ⟨h1, h2⟩
    · exact ⟨fun h => by simp only [cond_true] at h; omega, fun _ => by simp⟩
def decF (s : Agr) : List Int × Bool :=
  bif (winR s.view s.box).2 then ((winR s.view s.box).1, true)
  else bif decide (bestD s.accs (majB s.view.mem.length) s.accs.length < 0) then ([], false)
  else ((s.accs.getD (bestD s.accs (majB s.view.mem.length) s.accs.length).toNat rpt0).cut, true)
theorem decF_eq {s : Agr} (h : AW s) : (decF s).1 = decR s ∧ (decF s).2 = decide (0 < ((decR s).length : Int)) := by
  have hb := best_acc (l := s.accs) (fun r hr => (h.apr r hr).1) (majB s.view.mem.length) s.accs.length (Nat.le_refl _)
  have hin := best_in s.accs (majB s.view.mem.length) s.accs.length
  unfold decF decR accdR
  cases hw : (winR s.view s.box).2
  · simp only [cond_false]
    cases hd : decide (bestD s.accs (majB s.view.mem.length) s.accs.length < 0)
    · have hd := of_decide_eq_false hd
      rw [hb.2 (by omega)]
      refine ⟨rfl, ?_⟩
      rcases hin with h1 | ⟨k, h1, h2⟩
      · omega
      · have hm : s.accs.getD (bestD s.accs (majB s.view.mem.length) s.accs.length).toNat rpt0 ∈ s.accs := by
          rw [h2, Int.toNat_natCast]
          simp [h1]
        generalize s.accs.getD (bestD s.accs (majB s.view.mem.length) s.accs.length).toNat rpt0 = r at *
        have ha := h.apr r hm
        have : appB s.view r.cut = true := by
          rcases vr_cut (((reps_iff h.v).1 h.accs).1 r hm) with h4 | h4
          · omega
          · exact h4.2
        exact (len1.2 (app_ne this)).symm
    · rw [hb.1 (of_decide_eq_true hd)]
      exact ⟨rfl, rfl⟩
  · obtain ⟨b, hb2, he⟩ := win_mem hw
    simp only [cond_true]
    rw [← he]
    exact ⟨trivial, (len1.2 (app_ne (((box_iff h.v).1 h.box).1 b hb2).2)).symm⟩
end Go.Proofs.YtmbniilpgbjcfaaGreat

set_option maxRecDepth 100000
namespace Go.Proofs.YtmbniilpgbjcfaaGreat
open Go.Lift
set_option maxHeartbeats 4000000 in
theorem c_ref10_decision (s : Agr) (hs : SmA s) : Ret Tryz.prog 89 [.agg (agrE s)] (.tup [.lst 1 ((decF s).1.map intE) false, .v (.bool (decF s).2)]) := by
  have hal := hs.accs
  have ew := c_ref8_Winner s.view (by have := hs.mem; omega) s.box (by have := hs.box; omega) (fun b hb => by have := hs.boxc b hb; omega)
  have em : Ret Tryz.prog 86 [i64 ((s.view.mem.map intE).length : Int)] (i64 (majB s.view.mem.length)) := by
    rw [List.length_map]
    exact c_ref3_Majority _
  have hF : decF s = bif (winR s.view s.box).2 then ((winR s.view s.box).1, true) else bif decide (bestD s.accs (majB s.view.mem.length) s.accs.length < 0) then ([], false) else ((s.accs.getD (bestD s.accs (majB s.view.mem.length) s.accs.length).toNat rpt0).cut, true) := rfl
  generalize decF s = F at *
  generalize winR s.view s.box = W at *
  refine ret_of_body (fn := Tryz.f89) (c := Tryz.f89.body.getD .skip) hm hT (by kernel_rfl) Tryz.func89 (by kernel_rfl) (by kernel_rfl) (by kernel_rfl) (by kernel_rfl) ?_
  repeat' ((conv => whnf); first | refine And.intro (fun h => h) ?_ | refine dcond_t (by assumption) ?_ | refine dcond_f (by assumption) ?_ | (refine dcond_intro ?_ ?_ <;> intro h) | exact .refl | refine And.intro (by kernel_rfl) ?_ | refine And.intro ⟨fun h => h, fun h => h⟩ ?_ | refine .inl ⟨_, _, DleAll_refl _, ew, ?_⟩ | refine ⟨_, _, DleAll_refl _, fun _ => ew, ?_⟩ | refine ⟨_, _, DleAll_refl _, ew, ?_⟩ | refine Exists.intro false ?_ | (refine And.intro ?_ ?_; focus (simp; done)) | fail)
  all_goals (conv => whnf)
  · rw [hF, h]
    exact .refl
  · rw [h, cond_false] at hF
    clear h
    refine ⟨Nat, fun i => ⟨[(1, .lp 0 0), (6, i64 (bestD s.accs (majB s.view.mem.length) i)), (7, i64 i)], [.cells 30 (agrE s)]⟩, fun i => i ≤ s.accs.length, fun i => s.accs.length - i, [], ⟨0, Nat.zero_le _, ?_⟩, ?_⟩
    · conv => whnf
      exact ⟨⟨.refl, .refl, .refl, trivial⟩, ⟨.refl, trivial⟩, by rfl⟩
    · intro i hi
      conv => whnf
      refine dcond_intro ?_ ?_ <;> intro h
      · have hlt : i < s.accs.length := by simpa using h
        clear h hF
        have hg : s.accs.getD i rpt0 = s.accs[i] := by simp [hlt]
        have hci := hs.accc _ (List.getElem_mem hlt)
        have hstep : bestD s.accs (majB s.view.mem.length) (i + 1) = bif decide (majB s.view.mem.length ≤ (vA s.accs s.accs[i] s.accs.length : Int)) && (decide (bestD s.accs (majB s.view.mem.length) i < 0) || decide ((s.accs.getD (bestD s.accs (majB s.view.mem.length) i).toNat rpt0).rank < s.accs[i].rank)) then (i : Int) else bestD s.accs (majB s.view.mem.length) i := by
          rw [← hg]
          rfl
        have hbi := best_in s.accs (majB s.view.mem.length) i
        have hgx : (s.accs.map rptE)[i]? = some (rptE s.accs[i]) := get_map hlt
        obtain ⟨r, hr⟩ : ∃ r, r = s.accs[i] := ⟨_, rfl⟩
        rw [← hr] at hci hstep hgx
        have hbk : decide (bestD s.accs (majB s.view.mem.length) i < 0) = false → bestD s.accs (majB s.view.mem.length) i = ((bestD s.accs (majB s.view.mem.length) i).toNat : Int) ∧ (s.accs.map rptE)[(bestD s.accs (majB s.view.mem.length) i).toNat]? = some (rptE (s.accs.getD (bestD s.accs (majB s.view.mem.length) i).toNat rpt0)) := fun h => by
          have h := of_decide_eq_false h
          rcases hbi with h1 | ⟨k, h1, h2⟩
          · omega
          · rw [h2, Int.toNat_natCast]
            refine ⟨rfl, ?_⟩
            simp [show k < s.accs.length by omega]
        clear hbi
        generalize hBb : bestD s.accs (majB s.view.mem.length) i = b at *
        refine ⟨Nat, fun k => ⟨[(1, .lp 0 0), (6, i64 b), (7, i64 i), (8, i64 (vA s.accs r k)), (9, i64 k)], [.cells 30 (agrE s)]⟩, fun k => k ≤ s.accs.length, fun k => s.accs.length - k, [], ⟨0, Nat.zero_le _, ?_⟩, ?_⟩
        · conv => whnf
          exact ⟨⟨.refl, .refl, .refl, .refl, .refl, trivial⟩, ⟨.refl, trivial⟩, by rfl⟩
        · intro k hk
          conv => whnf
          refine dcond_intro ?_ ?_ <;> intro h
          · have hltk : k < s.accs.length := by simpa using h
            clear h
            have hvk := vA_succ (r := r) hltk
            have hvl := vA_le s.accs r k
            have e42 := c_ref1_SameInts s.accs[k].cut r.cut (by have := hs.accc _ (List.getElem_mem hltk); exact mx this)
            have hgk : (s.accs.map rptE)[k]? = some (rptE s.accs[k]) := get_map hltk
            repeat' ((conv => whnf); first | refine And.intro (fun h => h) ?_ | refine dcond_t (by assumption) ?_ | refine dcond_f (by assumption) ?_ | (refine dcond_intro ?_ ?_ <;> intro h) | exact .refl | refine And.intro (by kernel_rfl) ?_ | refine And.intro ⟨fun h => h, fun h => h⟩ ?_ | refine .inl ⟨_, _, DleAll_refl _, e42, ?_⟩ | refine ⟨_, _, DleAll_refl _, fun _ => e42, ?_⟩ | refine ⟨_, _, DleAll_refl _, e42, ?_⟩ | refine ⟨k, rptE s.accs[k], And.intro ⟨rfl, hgk⟩ ?_⟩ | refine ⟨i, rptE r, And.intro ⟨rfl, hgx⟩ ?_⟩ | refine ⟨k, rptE s.accs[k], And.intro ⟨⟨fun h => h, fun h => h⟩, fun hg => ⟨rfl, hgk⟩⟩ ?_⟩ | refine ⟨i, rptE r, And.intro ⟨⟨fun h => h, fun h => h⟩, fun hg => ⟨rfl, hgx⟩⟩ ?_⟩ | refine Exists.intro false ?_ | (refine And.intro ?_ ?_; focus (simp; done)) | fail)
            all_goals (conv => whnf)
            · refine ⟨k + 1, hltk, by simp only []; omega, ?_⟩
              conv => whnf
              refine ⟨⟨.refl, .refl, .refl, ?_, dle_int (wrap_succ (by omega)), trivial⟩, ⟨.refl, trivial⟩, by rfl⟩
              rw [hvk, if_pos h]
              exact dle_int (wrap_succ (by omega))
            · refine ⟨k + 1, hltk, by simp only []; omega, ?_⟩
              conv => whnf
              refine ⟨⟨.refl, .refl, .refl, ?_, dle_int (wrap_succ (by omega)), trivial⟩, ⟨.refl, trivial⟩, by rfl⟩
              rw [hvk, if_neg (by rw [h]; simp)]
              exact .refl
          · have hge : ¬ k < s.accs.length := by simpa using h
            have : k = s.accs.length := by omega
            subst this
            clear h
            generalize hYb : s.accs.getD b.toNat rpt0 = Y at *
            have hb1 : (decide (majB s.view.mem.length ≤ (vA s.accs r s.accs.length : Int)) && !decide (b < 0)) = true → b = (b.toNat : Int) ∧ (s.accs.map rptE)[b.toNat]? = some (rptE Y) := fun h => hbk (by
              have := ((Bool.and_eq_true ..).mp h).2
              simpa using this)
            repeat' ((conv => whnf); first | refine And.intro (fun h => h) ?_ | refine dcond_t (by assumption) ?_ | refine dcond_f (by assumption) ?_ | (refine dcond_intro ?_ ?_ <;> intro h) | exact .refl | refine And.intro (by kernel_rfl) ?_ | refine And.intro ⟨fun h => h, fun h => h⟩ ?_ | refine .inl ⟨_, _, DleAll_refl _, em, ?_⟩ | refine ⟨_, _, DleAll_refl _, fun _ => em, ?_⟩ | refine ⟨_, _, DleAll_refl _, em, ?_⟩ | refine ⟨i, rptE r, And.intro ⟨⟨fun h => h, fun h => h⟩, fun hg => ⟨rfl, hgx⟩⟩ ?_⟩ | refine ⟨b.toNat, rptE Y, And.intro ⟨⟨fun h => h, fun h => h⟩, fun hg => hb1 hg⟩ ?_⟩ | refine Exists.intro false ?_ | (refine And.intro ?_ ?_; focus (simp; done)) | fail)
            all_goals (conv => whnf)
            · rw [h, cond_true] at hstep
              refine ⟨i + 1, hlt, by simp only []; omega, ?_⟩
              conv => whnf
              exact ⟨⟨.refl, dle_int hstep.symm, dle_int (wrap_succ (by omega)), trivial⟩, ⟨.refl, trivial⟩, by rfl⟩
            · rw [h, cond_false] at hstep
              refine ⟨i + 1, hlt, by simp only []; omega, ?_⟩
              conv => whnf
              exact ⟨⟨.refl, dle_int hstep.symm, dle_int (wrap_succ (by omega)), trivial⟩, ⟨.refl, trivial⟩, by rfl⟩
      · have hge : ¬ i < s.accs.length := by simpa using h
        have : i = s.accs.length := by omega
        subst this
        clear h
        have hbi := best_in s.accs (majB s.view.mem.length) s.accs.length
        generalize bestD s.accs (majB s.view.mem.length) s.accs.length = b at *
        conv => whnf
        refine dcond_intro ?_ ?_ <;> intro h
        · rw [hF, h]
          repeat' ((conv => whnf); first | refine And.intro (fun h => h) ?_ | refine dcond_t (by assumption) ?_ | refine dcond_f (by assumption) ?_ | (refine dcond_intro ?_ ?_ <;> intro h) | exact .refl | refine And.intro (by kernel_rfl) ?_ | refine And.intro ⟨fun h => h, fun h => h⟩ ?_ | refine Exists.intro false ?_ | (refine And.intro ?_ ?_; focus (simp; done)) | fail)
          all_goals (conv => whnf)
          all_goals exact dle_tupA ⟨.nl, .refl, trivial⟩
        · rw [hF, h, cond_false]
          have hk : ∃ k : Nat, b = (k : Int) ∧ (s.accs.map rptE)[k]? = some (rptE (s.accs.getD b.toNat rpt0)) := by
            have h := of_decide_eq_false h
            rcases hbi with h1 | ⟨k, h1, h2⟩
            · omega
            · refine ⟨k, h2, ?_⟩
              rw [h2, Int.toNat_natCast]
              simp [h1]
          obtain ⟨k, hk1, hk2⟩ := hk
          generalize s.accs.getD b.toNat rpt0 = Y at *
          repeat' ((conv => whnf); first | refine And.intro (fun h => h) ?_ | refine dcond_t (by assumption) ?_ | refine dcond_f (by assumption) ?_ | (refine dcond_intro ?_ ?_ <;> intro h) | exact .refl | refine And.intro (by kernel_rfl) ?_ | refine And.intro ⟨fun h => h, fun h => h⟩ ?_ | refine ⟨k, rptE Y, And.intro ⟨hk1, hk2⟩ ?_⟩ | refine Exists.intro false ?_ | (refine And.intro ?_ ?_; focus (simp; done)) | fail)
end Go.Proofs.YtmbniilpgbjcfaaGreat

set_option maxRecDepth 100000
namespace Go.Proofs.YtmbniilpgbjcfaaGreat
open Go.Lift
theorem c_ref10_message (s : Agr) (k r l : Int) (cut : List Int) : Ret Tryz.prog 36 [.agg (agrE s), i64 k, i64 r, i64 l, .lst 1 (cut.map intE) false] (.agg (msgE ⟨k, s.view.num, s.self, r, l, cut⟩)) := by
  refine ret_of_body (fn := Tryz.f36) (c := Tryz.f36.body.getD .skip) hm hT (by kernel_rfl) Tryz.func36 (by kernel_rfl) (by kernel_rfl) (by kernel_rfl) (by kernel_rfl) ?_
  repeat' ((conv => whnf); first | refine And.intro (fun h => h) ?_ | refine dcond_t (by assumption) ?_ | refine dcond_f (by assumption) ?_ | (refine dcond_intro ?_ ?_ <;> intro h) | exact .refl | refine And.intro (by kernel_rfl) ?_ | refine And.intro ⟨fun h => h, fun h => h⟩ ?_ | refine Exists.intro false ?_ | (refine And.intro ?_ ?_; focus (simp; done)) | fail)
theorem c_ref10_all (s : Agr) (k r : Int) (cut : List Int) : Ret Tryz.prog 28 [.agg (agrE s), i64 k, i64 r, .lst 1 (cut.map intE) false] (.agg (pktE (pktOf s 0 k r 0 cut))) := by
  have e := c_ref10_message s k r 0 cut
  refine ret_of_body (fn := Tryz.f28) (c := Tryz.f28.body.getD .skip) hm hT (by kernel_rfl) Tryz.func28 (by kernel_rfl) (by kernel_rfl) (by kernel_rfl) (by kernel_rfl) ?_
  repeat' ((conv => whnf); first | refine And.intro (fun h => h) ?_ | refine dcond_t (by assumption) ?_ | refine dcond_f (by assumption) ?_ | (refine dcond_intro ?_ ?_ <;> intro h) | exact .refl | refine And.intro (by kernel_rfl) ?_ | refine And.intro ⟨fun h => h, fun h => h⟩ ?_ | refine .inl ⟨_, _, DleAll_refl _, e, ?_⟩ | refine ⟨_, _, DleAll_refl _, fun _ => e, ?_⟩ | refine ⟨_, _, DleAll_refl _, e, ?_⟩ | refine Exists.intro false ?_ | (refine And.intro ?_ ?_; focus (simp; done)) | fail)
theorem c_ref10_idle (s : Agr) : Ret Tryz.prog 39 [.agg (agrE s)] (.agg (agrE (idleA s))) := by
  refine ret_of_body (fn := Tryz.f39) (c := Tryz.f39.body.getD .skip) hm hT (by kernel_rfl) Tryz.func39 (by kernel_rfl) (by kernel_rfl) (by kernel_rfl) (by kernel_rfl) ?_
  repeat' ((conv => whnf); first | refine And.intro (fun h => h) ?_ | refine dcond_t (by assumption) ?_ | refine dcond_f (by assumption) ?_ | (refine dcond_intro ?_ ?_ <;> intro h) | exact .refl | refine And.intro (by kernel_rfl) ?_ | refine And.intro ⟨fun h => h, fun h => h⟩ ?_ | refine Exists.intro false ?_ | (refine And.intro ?_ ?_; focus (simp; done)) | fail)
  all_goals (conv => whnf)
  all_goals exact dle_aggA ⟨.refl, .refl, .refl, .refl, .refl, .refl, .refl, .refl, .refl, .refl, .nl, .nl, .refl, .refl, .refl, trivial⟩
theorem fin_yes {s : Agr} (h : AW s) {ps : List Pkt} (h0 : decide (0 < ((s.dec.map intE).length : Int)) = false) (h1 : (decF s).2 = true) : endA s ps = ({ s with dec := (decF s).1 }, ps ++ [pktOf s 0 6 0 0 (decF s).1]) := by
  obtain ⟨e1, e2⟩ := decF_eq h
  rw [List.length_map] at h0
  rw [h1] at e2
  have h3 : decide ((s.dec.length : Int) = 0) = true := len0.2 (len1f.1 h0)
  unfold endA
  rw [h3, ← e2, e1]
  rfl
theorem fin_no {s : Agr} (h : AW s) {ps : List Pkt} (h1 : (decF s).2 = false) : endA s ps = (s, ps) := by
  obtain ⟨e1, e2⟩ := decF_eq h
  rw [h1] at e2
  unfold endA
  rw [← e2, Bool.and_false]
  rfl
theorem fin_old {s : Agr} {ps : List Pkt} (h0 : decide (0 < ((s.dec.map intE).length : Int)) = true) : endA s ps = (s, ps) := by
  rw [List.length_map] at h0
  have h3 : decide ((s.dec.length : Int) = 0) = false := decide_eq_false (by have := of_decide_eq_true h0; omega)
  unfold endA
  rw [h3, Bool.false_and]
  rfl
set_option maxHeartbeats 4000000 in
theorem c_ref10_finish_nil (s : Agr) (hA : AW s) : Ret Tryz.prog 29 [.agg (agrE s), .nl] (.tup [.agg (agrE (endA s []).1), .lst 7 ((endA s []).2.map pktE) false]) := by
  have e1 := c_ref10_decision s (sm_aw hA)
  have hy := fun h0 h1 => @fin_yes s hA [] h0 h1
  have hn := fun h1 => @fin_no s hA [] h1
  have ho := fun h0 => @fin_old s [] h0
  generalize decF s = F at *
  generalize endA s [] = E at *
  have e2 := c_ref10_all { s with dec := F.1 } 6 0 F.1
  refine ret_of_body (fn := Tryz.f29) (c := Tryz.f29.body.getD .skip) hm hT (by kernel_rfl) Tryz.func29 (by kernel_rfl) (by kernel_rfl) (by kernel_rfl) (by kernel_rfl) ?_
  repeat' ((conv => whnf); first | refine And.intro (fun h => h) ?_ | refine dcond_t (by assumption) ?_ | refine dcond_f (by assumption) ?_ | (refine dcond_intro ?_ ?_ <;> intro h) | exact .refl | refine And.intro (by kernel_rfl) ?_ | refine And.intro ⟨fun h => h, fun h => h⟩ ?_ | refine .inl ⟨_, _, DleAll_refl _, e1, ?_⟩ | refine ⟨_, _, DleAll_refl _, fun _ => e1, ?_⟩ | refine ⟨_, _, DleAll_refl _, e1, ?_⟩ | refine .inl ⟨_, _, DleAll_refl _, e2, ?_⟩ | refine ⟨_, _, DleAll_refl _, fun _ => e2, ?_⟩ | refine ⟨_, _, DleAll_refl _, e2, ?_⟩ | refine And.intro (fitsP (by simp <;> omega)) ?_ | refine Exists.intro false ?_ | (refine And.intro ?_ ?_; focus (simp; done)) | fail)
  all_goals (conv => whnf)
  · rw [ho h]
    exact dle_tupA ⟨.refl, .nl, trivial⟩
  · rename_i h0
    rw [hn (by simpa using h)]
    exact dle_tupA ⟨.refl, .nl, trivial⟩
  · rename_i h0
    rw [hy h0 (by simpa using h)]
    exact .refl
set_option maxHeartbeats 4000000 in
theorem m_ref10_finish_own (s : Agr) (hA : AW s) (ps : List Pkt) (hps : ps.length ≤ 100) : RetM Tryz.prog 29 [.row 48 7 (ps.map pktE)] [.agg (agrE s), .own 0] [false] [.dead] (.tup [.agg (agrE (endA s ps).1), .lst 7 ((endA s ps).2.map pktE) false]) := by
  have e1 := c_ref10_decision s (sm_aw hA)
  have hy := fun h0 h1 => @fin_yes s hA ps h0 h1
  have hn := fun h1 => @fin_no s hA ps h1
  have ho := fun h0 => @fin_old s ps h0
  generalize decF s = F at *
  generalize endA s ps = E at *
  have e2 := c_ref10_all { s with dec := F.1 } 6 0 F.1
  refine retM_of_bodyA (fn := Tryz.f29) (c := Tryz.f29.body.getD .skip) hm hT (by kernel_rfl) Tryz.func29 (by kernel_rfl) (by kernel_rfl) (by kernel_rfl) (by kernel_rfl) (by kernel_rfl) ?_
  repeat' ((conv => whnf); first | refine And.intro (fun h => h) ?_ | refine dcond_t (by assumption) ?_ | refine dcond_f (by assumption) ?_ | (refine dcond_intro ?_ ?_ <;> intro h) | exact .refl | refine And.intro (by kernel_rfl) ?_ | refine And.intro ⟨fun h => h, fun h => h⟩ ?_ | refine .inl ⟨_, _, DleAll_refl _, e1, ?_⟩ | refine ⟨_, _, DleAll_refl _, fun _ => e1, ?_⟩ | refine ⟨_, _, DleAll_refl _, e1, ?_⟩ | refine .inl ⟨_, _, DleAll_refl _, e2, ?_⟩ | refine ⟨_, _, DleAll_refl _, fun _ => e2, ?_⟩ | refine ⟨_, _, DleAll_refl _, e2, ?_⟩ | refine And.intro (fitsP (by simp <;> omega)) ?_ | refine Exists.intro false ?_ | (refine And.intro ?_ ?_; focus (simp; done)) | fail)
  all_goals (conv => whnf)
  · rw [ho h]
    refine ⟨[.shut 5], ?_⟩
    conv => whnf
    exact ⟨.refl, ⟨.dead, gh_junk, trivial⟩, by rfl⟩
  · rename_i h0
    rw [hn (by simpa using h)]
    refine ⟨[.shut 5], ?_⟩
    conv => whnf
    exact ⟨.refl, ⟨.dead, gh_junk, trivial⟩, by rfl⟩
  · rename_i h0
    rw [hy h0 (by simpa using h)]
    refine ⟨[.shut 5], ?_⟩
    conv => whnf
    refine ⟨dle_tupA ⟨.refl, dle_lst ?_, trivial⟩, ⟨.dead, gh_junk, trivial⟩, by rfl⟩
    rw [List.map_append]
    rfl
end Go.Proofs.YtmbniilpgbjcfaaGreat

set_option maxRecDepth 100000
namespace Go.Proofs.YtmbniilpgbjcfaaGreat
open Go.Lift
theorem prop_eqs {s : Agr} (h : AW s) {cut : List Int} (hp : s.prop = []) (hc : appB s.view cut = true) (hv : (voteR s.acc cut).2 = true) : (voteR s.acc cut).1 = ⟨0, 0, cut⟩ ∧ castR s.view s.box ⟨s.self, cut⟩ = (insB s.box ⟨s.self, cut⟩, 0) := by
  have hn := box_no h hp
  obtain ⟨v1, v2, v3, v4⟩ := vote_ok h.acc hv
  refine ⟨v4, ?_⟩
  have h3 : decide (0 ≤ ofBal s.box s.self) = false := by
    cases h4 : decide (0 ≤ ofBal s.box s.self)
    · rfl
    · obtain ⟨b, hb, he⟩ := ofb_pos h4
      exact absurd he (hn b hb)
  have e1 : (!boxB s.view s.box || !appB s.view cut) = false := by rw [h.box, hc]; rfl
  have e2 : (!inB s.view.mem s.self) = false := by rw [h.self]; rfl
  exact cast_new e1 e2 hn
theorem aw_prop1 {s : Agr} (h : AW s) {cut : List Int} (hp : s.prop = []) (hc : appB s.view cut = true) : AW { s with prop := cut, wait := 0, acc := ⟨0, 0, cut⟩, box := insB s.box ⟨s.self, cut⟩ } := by
  have h0 : s.phase = 0 ∧ s.reps = [] ∧ s.cho = [] := by
    rcases h.ph with h0 | h0
    · exact h0
    · exact absurd hp h0.2.2.1
  have hn := box_no h hp
  have hb := box_ins (b := ⟨s.self, cut⟩) h.v h.box hc h.self hn
  exact ⟨h.v, h.self, Int.le_refl _, (by show (0 : Int) ≤ _; omega), (accB_iff _).2 ⟨.inl rfl, Int.le_refl _, .inr ⟨.inl rfl, by simp, app_ids (of_decide_eq_true hc)⟩⟩, (fun e => absurd rfl e), (fun e => absurd e (Int.lt_irrefl _)), good_iff.2 (.inr hc), good_iff.2 (.inr hc), h.cho, h.dec, hb, (own_iff h.v hb).2 (fun b hb2 he => by
      rcases insB_mem hb2 with rfl | hb2
      · rfl
      · exact absurd he (hn b hb2)), h.reps, h.rpr, h.accs, h.apr, h.rank, .inl h0⟩
theorem aw_propY {s : Agr} (h : AW s) {cut : List Int} (hp : s.prop = []) (hc : appB s.view cut = true) (V : Acc × Bool) (X : List Bal × Int) (h1 : V.1 = ⟨0, 0, cut⟩) (h2 : X = (insB s.box ⟨s.self, cut⟩, 0)) : AW { s with prop := cut, wait := 0, acc := V.1, box := X.1 } := by
  subst h2
  rw [h1]
  exact aw_prop1 h hp hc
theorem aw_propN {s : Agr} (h : AW s) {cut : List Int} (hp : s.prop = []) (hc : appB s.view cut = true) : AW { s with prop := cut, wait := 0 } := by
  have h0 : s.phase = 0 ∧ s.reps = [] ∧ s.cho = [] := by
    rcases h.ph with h0 | h0
    · exact h0
    · exact absurd hp h0.2.2.1
  have hn := box_no h hp
  exact ⟨h.v, h.self, Int.le_refl _, (by show (0 : Int) ≤ _; omega), h.acc, h.pro, h.rk, h.acut, good_iff.2 (.inr hc), h.cho, h.dec, h.box, (own_iff h.v h.box).2 (fun b hb2 he => absurd he (hn b hb2)), h.reps, h.rpr, h.accs, h.apr, h.rank, .inl h0⟩
set_option maxHeartbeats 8000000 in
theorem c_ref10_Propose (s : Agr) (hs : SmA s) (cut : List Int) (hc : cut.length ≤ 1000) : Ret Tryz.prog 7 [.agg (agrE s), .lst 1 (cut.map intE) false] (.tup [.agg (agrE (propA s cut).1), .lst 7 ((propA s cut).2.1.map pktE) false, i64 (propA s cut).2.2]) := by
  have hv := hs.mem
  have e12 := c_ref10_Valid s hs
  have e55 : Ret Tryz.prog 25 [.agg (viewE s.view), .lst 1 (cut.map intE) false] (.v (.bool (appB s.view cut))) := c_ref3_Applicable _ (by omega) _ (by omega)
  have e59 := c_ref9_OnVote s.acc (by have := hs.acut; simp only [maxLen]; omega) cut (by simp only [maxLen]; omega)
  have e60 := c_ref8_Cast s.view (by omega) s.box (by have := hs.box; omega) (fun b hb => by have := hs.boxc b hb; omega) ⟨s.self, cut⟩ (by simp only []; omega)
  have e61 := c_ref10_all { s with prop := cut, wait := 0, acc := (voteR s.acc cut).1, box := (castR s.view s.box ⟨s.self, cut⟩).1 } 1 0 cut
  obtain ⟨R, hR⟩ : ∃ R, R = propA s cut := ⟨_, rfl⟩
  rw [← hR]
  unfold propA at hR
  have f1 := fun hA => m_ref10_finish_own { s with prop := cut, wait := 0, acc := (voteR s.acc cut).1, box := (castR s.view s.box ⟨s.self, cut⟩).1 } hA [pktOf s 0 1 0 0 cut] (by simp)
  have f2 := fun hA => c_ref10_finish_nil { s with prop := cut, wait := 0 } hA
  have a0 := fun hA hp hc hv => @prop_eqs s hA cut hp hc hv
  have a1 := fun hA hp hc h1 h2 => @aw_propY s hA cut hp hc (voteR s.acc cut) (castR s.view s.box ⟨s.self, cut⟩) h1 h2
  have a2 := fun hA hp hc => @aw_propN s hA cut hp hc
  have hiff := (agr_iff s).1
  generalize voteR s.acc cut = V at *
  generalize (castR s.view s.box ⟨s.self, cut⟩) = X at *
  generalize agrB s = B at *
  generalize appB s.view cut = C at *
  refine ret_of_body (fn := Tryz.f7) (c := Tryz.f7.body.getD .skip) hm hT (by kernel_rfl) Tryz.func7 (by kernel_rfl) (by kernel_rfl) (by kernel_rfl) (by kernel_rfl) ?_
  repeat' ((conv => whnf); first | refine And.intro (fun h => h) ?_ | refine dcond_t (by assumption) ?_ | refine dcond_f (by assumption) ?_ | (refine dcond_intro ?_ ?_ <;> intro h) | exact .refl | refine And.intro (by kernel_rfl) ?_ | refine And.intro ⟨fun h => h, fun h => h⟩ ?_ | refine .inl ⟨_, _, DleAll_refl _, e12, ?_⟩ | refine ⟨_, _, DleAll_refl _, fun _ => e12, ?_⟩ | refine ⟨_, _, DleAll_refl _, e12, ?_⟩ | refine .inl ⟨_, _, DleAll_refl _, e55, ?_⟩ | refine ⟨_, _, DleAll_refl _, fun _ => e55, ?_⟩ | refine ⟨_, _, DleAll_refl _, e55, ?_⟩ | refine Exists.intro false ?_ | (refine And.intro ?_ ?_; focus (simp; done)) | fail)
  · simp only [h, cond_true] at hR
    subst hR
    exact dle_tupA ⟨agr0_le, .nl, .refl, trivial⟩
  · rename_i h0
    rw [List.length_map, List.length_map] at h
    simp only [h0, h, cond_true, cond_false] at hR
    subst hR
    exact dle_tupA ⟨agr0_le, .nl, .refl, trivial⟩
  rename_i h0
  rw [List.length_map, List.length_map] at h
  simp only [h0, h, cond_false] at hR
  simp only [Bool.or_eq_false_iff, Bool.not_eq_false'] at h0 h
  have hA := (hiff h0.1).1
  have hp := len1f.1 h.1
  have f2 := f2 (a2 hA hp h0.2)
  have f1 := fun hv => f1 (a1 hA hp h0.2 (a0 hA hp h0.2 hv).1 (a0 hA hp h0.2 hv).2)
  clear h hiff a0 a1 a2
  repeat' ((conv => whnf); first | refine And.intro (fun h => h) ?_ | refine dcond_t (by assumption) ?_ | refine dcond_f (by assumption) ?_ | (refine dcond_intro ?_ ?_ <;> intro h) | exact .refl | refine And.intro (by kernel_rfl) ?_ | refine And.intro ⟨fun h => h, fun h => h⟩ ?_ | refine .inl ⟨_, _, DleAll_refl _, e59, ?_⟩ | refine ⟨_, _, DleAll_refl _, fun _ => e59, ?_⟩ | refine ⟨_, _, DleAll_refl _, e59, ?_⟩ | refine .inl ⟨_, _, DleAll_refl _, e60, ?_⟩ | refine ⟨_, _, DleAll_refl _, fun _ => e60, ?_⟩ | refine ⟨_, _, DleAll_refl _, e60, ?_⟩ | refine And.intro (fitsP (by simp <;> omega)) ?_ | refine .inl ⟨_, _, DleAll_refl _, e61, ?_⟩ | refine ⟨_, _, DleAll_refl _, fun _ => e61, ?_⟩ | refine ⟨_, _, DleAll_refl _, e61, ?_⟩ | refine .inl ⟨_, _, DleAll_refl _, f2, ?_⟩ | refine ⟨_, _, DleAll_refl _, fun _ => f2, ?_⟩ | refine ⟨_, _, DleAll_refl _, f2, ?_⟩ | refine .inr ⟨[2], _, _, _, _, _, f1 (by assumption), by rfl, ⟨.refl, trivial⟩, ⟨.refl, .refl, trivial⟩, ?_⟩ | refine .inr ⟨[3], _, _, _, _, _, f1 (by assumption), by rfl, ⟨.refl, trivial⟩, ⟨.refl, .refl, trivial⟩, ?_⟩ | refine .inr ⟨[4], _, _, _, _, _, f1 (by assumption), by rfl, ⟨.refl, trivial⟩, ⟨.refl, .refl, trivial⟩, ?_⟩ | refine .inr ⟨[5], _, _, _, _, _, f1 (by assumption), by rfl, ⟨.refl, trivial⟩, ⟨.refl, .refl, trivial⟩, ?_⟩ | refine .inr ⟨[6], _, _, _, _, _, f1 (by assumption), by rfl, ⟨.refl, trivial⟩, ⟨.refl, .refl, trivial⟩, ?_⟩ | refine .inr ⟨[7], _, _, _, _, _, f1 (by assumption), by rfl, ⟨.refl, trivial⟩, ⟨.refl, .refl, trivial⟩, ?_⟩ | refine .inr ⟨[8], _, _, _, _, _, f1 (by assumption), by rfl, ⟨.refl, trivial⟩, ⟨.refl, .refl, trivial⟩, ?_⟩ | refine Exists.intro false ?_ | (refine And.intro ?_ ?_; focus (simp; done)) | fail)
  all_goals (conv => whnf)
  all_goals (simp only [h, cond_true, cond_false] at hR)
  all_goals subst hR
  all_goals exact .refl
end Go.Proofs.YtmbniilpgbjcfaaGreat

set_option maxRecDepth 100000
namespace Go.Proofs.YtmbniilpgbjcfaaGreat
open Go.Lift
theorem adv_rpt {s : Agr} (h : AW s) (hg : (!decide (s.phase = 1) || decide ((s.reps.length : Int) < majB s.view.mem.length)) = false) : vrB s.view ⟨s.self, s.rank, (chooseR s.view s.reps s.prop).1⟩ = true := by
  rw [Bool.or_eq_false_iff] at hg
  have h1 : s.phase = 1 := by simpa using hg.1
  rcases adv_cases h with ⟨hf, _⟩ | ⟨_, _, _, hap, _⟩
  · have := hf h1
    rw [decide_eq_true this] at hg
    exact absurd hg.2 (by simp)
  · have hr0 : s.rank ≠ 0 := by
      rcases h.ph with h0 | h0
      · omega
      · exact h0.2.1
    exact vr_mk h.self (proper_use (h.rank hr0).1).1 hap
set_option maxHeartbeats 8000000 in
theorem c_ref10_majority (s : Agr) (hA : AW s) : Ret Tryz.prog 41 [.agg (agrE s)] (.agg (agrE (advA s))) := by
  have hs := sm_aw hA
  have hcl := choose_len (v := s.view) (l := s.reps) (own := s.prop) hs.repc hs.prop
  have em : Ret Tryz.prog 86 [i64 ((s.view.mem.map intE).length : Int)] (i64 (majB s.view.mem.length)) := by
    rw [List.length_map]
    exact c_ref3_Majority _
  have e2 := c_ref9_Choose s.view (by have := hs.mem; omega) s.reps (by have := hs.reps; omega) (fun b hb => by have := hs.repc b hb; omega) s.prop (by have := hs.prop; omega)
  have hrp := adv_rpt hA
  have hy0 : (!decide (s.phase = 1) || decide ((s.reps.length : Int) < majB s.view.mem.length)) = true → advA s = s := fun h => by rw [advA, h, cond_true]
  have hy1 : (!decide (s.phase = 1) || decide ((s.reps.length : Int) < majB s.view.mem.length)) = false → (acceptR s.acc s.rank (chooseR s.view s.reps s.prop).1).2 = true → advA s = { s with cho := (chooseR s.view s.reps s.prop).1, phase := 2, acc := (acceptR s.acc s.rank (chooseR s.view s.reps s.prop).1).1, accs := enterR s.view s.accs ⟨s.self, s.rank, (chooseR s.view s.reps s.prop).1⟩ } := fun h h2 => by rw [advA, h, h2, cond_false, cond_true]
  have hy2 : (!decide (s.phase = 1) || decide ((s.reps.length : Int) < majB s.view.mem.length)) = false → (acceptR s.acc s.rank (chooseR s.view s.reps s.prop).1).2 = false → advA s = idleA s := fun h h2 => by rw [advA, h, h2, cond_false, cond_false]
  generalize chooseR s.view s.reps s.prop = C at *
  have e3 := c_ref9_OnAccept s.acc (mx hs.acut) s.rank C.1 (mx hcl)
  generalize acceptR s.acc s.rank C.1 = X at *
  have e4 := c_ref10_idle { s with cho := C.1, phase := 2 }
  have e5 := fun h => c_ref10_enter s.view s.accs (by have := hs.accs; omega) hA.accs ⟨s.self, s.rank, C.1⟩ (hrp h)
  generalize enterR s.view s.accs ⟨s.self, s.rank, C.1⟩ = E at *
  generalize advA s = A at *
  refine ret_of_body (fn := Tryz.f41) (c := Tryz.f41.body.getD .skip) hm hT (by kernel_rfl) Tryz.func41 (by kernel_rfl) (by kernel_rfl) (by kernel_rfl) (by kernel_rfl) ?_
  repeat' ((conv => whnf); first | refine And.intro (fun h => h) ?_ | refine dcond_t (by assumption) ?_ | refine dcond_f (by assumption) ?_ | (refine dcond_intro ?_ ?_ <;> intro h) | exact .refl | refine And.intro (by kernel_rfl) ?_ | refine And.intro ⟨fun h => h, fun h => h⟩ ?_ | refine .inl ⟨_, _, DleAll_refl _, em, ?_⟩ | refine ⟨_, _, DleAll_refl _, fun _ => em, ?_⟩ | refine ⟨_, _, DleAll_refl _, em, ?_⟩ | refine .inl ⟨_, _, DleAll_refl _, e2, ?_⟩ | refine ⟨_, _, DleAll_refl _, fun _ => e2, ?_⟩ | refine ⟨_, _, DleAll_refl _, e2, ?_⟩ | refine .inl ⟨_, _, DleAll_refl _, e3, ?_⟩ | refine ⟨_, _, DleAll_refl _, fun _ => e3, ?_⟩ | refine ⟨_, _, DleAll_refl _, e3, ?_⟩ | refine .inl ⟨_, _, DleAll_refl _, e4, ?_⟩ | refine ⟨_, _, DleAll_refl _, fun _ => e4, ?_⟩ | refine ⟨_, _, DleAll_refl _, e4, ?_⟩ | refine Exists.intro false ?_ | (refine And.intro ?_ ?_; focus (simp; done)) | fail)
  all_goals (conv => whnf)
  all_goals simp only [List.length_map] at *
  · rw [hy0 h]
    exact .refl
  · rename_i h0
    rw [hy2 h (by simpa using h0)]
    exact .refl
  · rename_i h0
    have e5 := e5 h
    rw [hy1 h (by simpa using h0)]
    repeat' ((conv => whnf); first | refine And.intro (fun h => h) ?_ | refine dcond_t (by assumption) ?_ | refine dcond_f (by assumption) ?_ | (refine dcond_intro ?_ ?_ <;> intro h) | exact .refl | refine And.intro (by kernel_rfl) ?_ | refine And.intro ⟨fun h => h, fun h => h⟩ ?_ | refine .inl ⟨_, _, DleAll_refl _, e5, ?_⟩ | refine ⟨_, _, DleAll_refl _, fun _ => e5, ?_⟩ | refine ⟨_, _, DleAll_refl _, e5, ?_⟩ | refine Exists.intro false ?_ | (refine And.intro ?_ ?_; focus (simp; done)) | fail)
end Go.Proofs.YtmbniilpgbjcfaaGreat

set_option maxRecDepth 100000
namespace Go.Proofs.YtmbniilpgbjcfaaGreat
open Go.Lift
set_option maxHeartbeats 8000000 in
theorem c_rR_inv (s : Agr) (hs : SmA s) (m : Msg) (h1 : agrB s = false) : Ret Tryz.prog 9 [.agg (agrE s), .agg (msgE m)] (.tup [.agg (agrE agr0), .lst 7 (([] : List Pkt).map pktE) false, i64 1]) := by
  have e12 := c_ref10_Valid s hs
  rw [h1] at e12
  refine ret_of_body (fn := Tryz.f9) (c := Tryz.f9.body.getD .skip) hm hT (by kernel_rfl) Tryz.func9 (by kernel_rfl) (by kernel_rfl) (by kernel_rfl) (by kernel_rfl) ?_
  repeat' ((conv => whnf); first | refine And.intro (fun h => h) ?_ | refine dcond_t (by assumption) ?_ | refine dcond_f (by assumption) ?_ | (refine dcond_intro ?_ ?_ <;> intro h) | exact .refl | refine And.intro (by kernel_rfl) ?_ | refine And.intro ⟨fun h => h, fun h => h⟩ ?_ | refine .inl ⟨_, _, DleAll_refl _, e12, ?_⟩ | refine ⟨_, _, DleAll_refl _, fun _ => e12, ?_⟩ | refine ⟨_, _, DleAll_refl _, e12, ?_⟩ | refine Exists.intro false ?_ | (refine And.intro ?_ ?_; focus (simp; done)) | fail)
  all_goals (conv => whnf)
  all_goals exact dle_tupA ⟨agr0_le, .nl, .refl, trivial⟩
set_option maxHeartbeats 8000000 in
theorem c_rR_old (s : Agr) (hs : SmA s) (m : Msg) (h1 : agrB s = true) (h2 : decide (m.view = s.view.num) = false) : Ret Tryz.prog 9 [.agg (agrE s), .agg (msgE m)] (.tup [.agg (agrE agr0), .lst 7 (([] : List Pkt).map pktE) false, i64 8]) := by
  have e12 := c_ref10_Valid s hs
  rw [h1] at e12
  refine ret_of_body (fn := Tryz.f9) (c := Tryz.f9.body.getD .skip) hm hT (by kernel_rfl) Tryz.func9 (by kernel_rfl) (by kernel_rfl) (by kernel_rfl) (by kernel_rfl) ?_
  repeat' ((conv => whnf); first | refine And.intro (fun h => h) ?_ | refine dcond_t (by assumption) ?_ | refine dcond_f (by assumption) ?_ | (refine dcond_intro ?_ ?_ <;> intro h) | exact .refl | refine And.intro (by kernel_rfl) ?_ | refine And.intro ⟨fun h => h, fun h => h⟩ ?_ | refine .inl ⟨_, _, DleAll_refl _, e12, ?_⟩ | refine ⟨_, _, DleAll_refl _, fun _ => e12, ?_⟩ | refine ⟨_, _, DleAll_refl _, e12, ?_⟩ | refine Exists.intro false ?_ | (refine And.intro ?_ ?_; focus (simp; done)) | fail)
  all_goals (conv => whnf)
  · exact dle_tupA ⟨agr0_le, .nl, .refl, trivial⟩
  all_goals
    rw [h2] at h
    cases h
set_option maxHeartbeats 8000000 in
theorem c_rR_bad (s : Agr) (hs : SmA s) (m : Msg) (hc : m.cut.length ≤ 1000) (h1 : agrB s = true) (h2 : decide (m.view = s.view.num) = true) (h3 : (!vmB s.view m || decide (m.src = s.self)) = true) : Ret Tryz.prog 9 [.agg (agrE s), .agg (msgE m)] (.tup [.agg (agrE agr0), .lst 7 (([] : List Pkt).map pktE) false, i64 1]) := by
  have hv := hs.mem
  have e12 := c_ref10_Valid s hs
  have e14 := c_ref10_ValidMessage s.view (by omega) m (by omega)
  rw [h1] at e12
  generalize vmB s.view m = V at *
  refine ret_of_body (fn := Tryz.f9) (c := Tryz.f9.body.getD .skip) hm hT (by kernel_rfl) Tryz.func9 (by kernel_rfl) (by kernel_rfl) (by kernel_rfl) (by kernel_rfl) ?_
  repeat' ((conv => whnf); first | refine And.intro (fun h => h) ?_ | refine dcond_t (by assumption) ?_ | refine dcond_f (by assumption) ?_ | (refine dcond_intro ?_ ?_ <;> intro h) | exact .refl | refine And.intro (by kernel_rfl) ?_ | refine And.intro ⟨fun h => h, fun h => h⟩ ?_ | refine .inl ⟨_, _, DleAll_refl _, e12, ?_⟩ | refine ⟨_, _, DleAll_refl _, fun _ => e12, ?_⟩ | refine ⟨_, _, DleAll_refl _, e12, ?_⟩ | refine .inl ⟨_, _, DleAll_refl _, e14, ?_⟩ | refine ⟨_, _, DleAll_refl _, fun _ => e14, ?_⟩ | refine ⟨_, _, DleAll_refl _, e14, ?_⟩ | refine Exists.intro false ?_ | (refine And.intro ?_ ?_; focus (simp; done)) | fail)
  all_goals (conv => whnf)
  · rw [h2] at h
    cases h
  · exact dle_tupA ⟨agr0_le, .nl, .refl, trivial⟩
set_option maxHeartbeats 8000000 in
theorem c_rR_dec (s : Agr) (hs : SmA s) (m : Msg) (hc : m.cut.length ≤ 1000) (h1 : agrB s = true) (h2 : decide (m.view = s.view.num) = true) (h3 : (!vmB s.view m || decide (m.src = s.self)) = false) (h5 : decide (0 < (s.dec.length : Int)) = true) : Ret Tryz.prog 9 [.agg (agrE s), .agg (msgE m)] (.tup [.agg (agrE s), .lst 7 ((bif decide (m.kind = 6) then [] else [pktOf s m.src 6 0 0 s.dec]).map pktE) false, i64 0]) := by
  have hv := hs.mem
  have e12 := c_ref10_Valid s hs
  have e14 := c_ref10_ValidMessage s.view (by omega) m (by omega)
  have e3 := c_ref10_message s 6 0 0 s.dec
  rw [h1] at e12
  generalize vmB s.view m = V at *
  have h5' : decide (0 < ((s.dec.map intE).length : Int)) = true := by rw [List.length_map]; exact h5
  refine ret_of_body (fn := Tryz.f9) (c := Tryz.f9.body.getD .skip) hm hT (by kernel_rfl) Tryz.func9 (by kernel_rfl) (by kernel_rfl) (by kernel_rfl) (by kernel_rfl) ?_
  repeat' ((conv => whnf); first | refine And.intro (fun h => h) ?_ | refine dcond_t (by assumption) ?_ | refine dcond_f (by assumption) ?_ | (refine dcond_intro ?_ ?_ <;> intro h) | exact .refl | refine And.intro (by kernel_rfl) ?_ | refine And.intro ⟨fun h => h, fun h => h⟩ ?_ | refine .inl ⟨_, _, DleAll_refl _, e12, ?_⟩ | refine ⟨_, _, DleAll_refl _, fun _ => e12, ?_⟩ | refine ⟨_, _, DleAll_refl _, e12, ?_⟩ | refine .inl ⟨_, _, DleAll_refl _, e14, ?_⟩ | refine ⟨_, _, DleAll_refl _, fun _ => e14, ?_⟩ | refine ⟨_, _, DleAll_refl _, e14, ?_⟩ | refine .inl ⟨_, _, DleAll_refl _, e3, ?_⟩ | refine ⟨_, _, DleAll_refl _, fun _ => e3, ?_⟩ | refine ⟨_, _, DleAll_refl _, e3, ?_⟩ | refine And.intro (fitsP (by simp <;> omega)) ?_ | refine Exists.intro false ?_ | (refine And.intro ?_ ?_; focus (simp; done)) | fail)
  all_goals (conv => whnf)
  · rw [h2] at h
    cases h
  · rw [show decide (m.kind = 6) = false by simpa using h]
    exact .refl
  · rw [show decide (m.kind = 6) = true by simpa using h]
    exact dle_tupA ⟨.refl, .nl, .refl, trivial⟩
end Go.Proofs.YtmbniilpgbjcfaaGreat

set_option maxRecDepth 100000
namespace Go.Proofs.YtmbniilpgbjcfaaGreat
open Go.Lift
theorem msg_len {v : View} {m : Msg} (h : vmB v m = true) : m.cut.length ≤ 32 := by
  have hb := vm_body h
  rcases vm_kind h with hk | hk | hk | hk | hk | hk
  · exact good_len (good_iff.2 (.inr (hb.1 (.inl hk))))
  · have : m.cut = [] := by
      unfold vmB at h
      cases h1 : !viewB v || !inB v.mem m.src || !decide (m.view = v.num)
      · simp only [h1, hk, cond_false] at h
        simp only [Bool.and_eq_true, decide_eq_true_eq, decide_true, decide_false, Bool.or_self, cond_true, cond_false, show ¬ ((2 : Int) = 1) by decide, show ¬ ((2 : Int) = 6) by decide] at h
        exact len0.1 (decide_eq_true h.2)
      · rw [h1] at h
        cases h
    rw [this]
    exact Nat.zero_le _
  · rcases (hb.2.2.1 hk).2.2 with hl | hl
    · rw [hl.2]
      exact Nat.zero_le _
    · exact good_len (good_iff.2 (.inr hl.2))
  · exact good_len (good_iff.2 (.inr (hb.2.2.2.1 hk).2.2))
  · exact good_len (good_iff.2 (.inr (hb.2.2.2.2 hk).2))
  · exact good_len (good_iff.2 (.inr (hb.1 (.inr hk))))
theorem vote_cases {s : Agr} (hA : AW s) {m : Msg} (hc : appB s.view m.cut = true) (hi : inB s.view.mem m.src = true) :
    (decide (ofBal s.box m.src < 0) = true → voteA s m = { s with box := (castR s.view s.box ⟨m.src, m.cut⟩).1 }) ∧ (decide (ofBal s.box m.src < 0) = false → voteA s m = s) := by
  have e1 : (!boxB s.view s.box || !appB s.view m.cut) = false := by rw [hA.box, hc]; rfl
  have e2 : (!inB s.view.mem m.src) = false := by rw [hi]; rfl
  refine ⟨fun h => ?_, fun h => ?_⟩
  · have hn := ofb_neg (l := s.box) (x := m.src) (decide_eq_false (by have := of_decide_eq_true h; omega))
    have e := cast_new (b := ⟨m.src, m.cut⟩) e1 e2 hn
    unfold voteA
    rw [e]
    rfl
  · have e3 : decide (0 ≤ ofBal s.box m.src) = true := decide_eq_true (by have := of_decide_eq_false h; omega)
    have e : castR s.view s.box ⟨m.src, m.cut⟩ = ([], 7) := by
      unfold castR
      simp only [e1, e2, e3, cond_true, cond_false]
    unfold voteA
    rw [e]
    rfl
theorem aw_reps {s : Agr} (h : AW s) {m : Msg} (hm : vmB s.view m = true) (hk : m.kind = 3) (hph : s.phase = 1) : AW { s with reps := (addR s.view s.reps ⟨m.src, m.last, m.cut⟩).1 } := by
  obtain ⟨hp, _, hl⟩ := (vm_body hm).2.2.1 hk
  have hb := hph
  have hph := h.ph
  rw [hb] at hph
  have hph : s.cho = [] ∧ s.rank ≠ 0 ∧ s.prop ≠ [] ∧ 0 ≤ ofB s.reps s.self := by
    rcases hph with h0 | ⟨h0 | h0, h1⟩
    · omega
    · exact ⟨h0.2, h1⟩
    · omega
  refine ⟨h.v, h.self, h.w0, h.w1, h.acc, h.pro, h.rk, h.acut, h.prop, h.cho, h.dec, h.box, h.own, add_reps h.reps, fun r hr h0 => ?_, h.accs, h.apr, h.rank, .inr ⟨.inl ⟨hb, hph.1⟩, hph.2.1, hph.2.2.1, ?_⟩⟩
  · rcases add_mem hr with rfl | hr
    · rcases hl with hl | hl
      · simp only [] at h0
        omega
      · rcases hl.1 with hl | hl
        · simp only [] at h0
          omega
        · exact hl
    · exact h.rpr r hr h0
  · obtain ⟨r, hr, he⟩ := ofb_iff.1 hph.2.2.2
    exact ofb_iff.2 ⟨r, add_sub h.reps hr, he⟩
set_option maxHeartbeats 8000000 in
theorem c_rR_vote (s : Agr) (hA : AW s) (hf : few s) (m : Msg) (h1 : agrB s = true) (h2 : m.view = s.view.num) (h3 : vmB s.view m = true) (h4 : m.src ≠ s.self) (h5 : s.dec = []) (h6 : m.kind = 1) :
    Ret Tryz.prog 9 [.agg (agrE s), .agg (msgE m)] (.tup [.agg (agrE (endA ((voteA s m, ([] : List Pkt))).1 ((voteA s m, ([] : List Pkt))).2).1), .lst 7 ((endA ((voteA s m, ([] : List Pkt))).1 ((voteA s m, ([] : List Pkt))).2).2.map pktE) false, i64 0]) := by
  have hs := sm_aw hA
  have hv := hs.mem
  have hc := msg_len h3
  have e12 := c_ref10_Valid s hs
  have e14 := c_ref10_ValidMessage s.view (by omega) m (by omega)
  have e60 := c_ref8_Cast s.view (by omega) s.box (by have := hs.box; omega) (fun b hb => by have := hs.boxc b hb; omega) ⟨m.src, m.cut⟩ (by simp only []; omega)
  have e4 := c_ref8_Of s.box (mx hs.box) m.src
  obtain ⟨hy, hn⟩ := vote_cases hA ((vm_body h3).1 (.inl h6)) (vm_view h3).1
  have mend := c_ref10_finish_nil _ (nice_vote hA hf (m := m) h4).1
  have mY : decide (ofBal s.box m.src < 0) = true → Ret Tryz.prog 29 [.agg (agrE { s with box := (castR s.view s.box ⟨m.src, m.cut⟩).1 }), .nl] (.tup [.agg (agrE (endA (voteA s m) []).1), .lst 7 ((endA (voteA s m) []).2.map pktE) false]) := fun h => by
    have := mend
    rw [hy h] at this ⊢
    exact this
  have mN : decide (ofBal s.box m.src < 0) = false → Ret Tryz.prog 29 [.agg (agrE s), .nl] (.tup [.agg (agrE (endA (voteA s m) []).1), .lst 7 ((endA (voteA s m) []).2.map pktE) false]) := fun h => by
    have := mend
    rw [hn h] at this ⊢
    exact this
  clear mend hy hn
  generalize endA (voteA s m) [] = E at *
  generalize castR s.view s.box ⟨m.src, m.cut⟩ = X at *
  generalize ofBal s.box m.src = K at *
  rw [h1] at e12
  rw [h3] at e14
  have h4' : decide (m.src = s.self) = false := decide_eq_false h4
  have h2' : decide (m.view = s.view.num) = true := decide_eq_true h2
  have h5' : decide (0 < ((s.dec.map intE).length : Int)) = false := by rw [h5]; rfl
  have h6a : decide (m.kind = 1) = true := decide_eq_true h6
  refine ret_of_body (fn := Tryz.f9) (c := Tryz.f9.body.getD .skip) hm hT (by kernel_rfl) Tryz.func9 (by kernel_rfl) (by kernel_rfl) (by kernel_rfl) (by kernel_rfl) ?_
  repeat' ((conv => whnf); first | refine And.intro (fun h => h) ?_ | refine dcond_t (by assumption) ?_ | refine dcond_f (by assumption) ?_ | (refine dcond_intro ?_ ?_ <;> intro h) | exact .refl | refine And.intro (by kernel_rfl) ?_ | refine And.intro ⟨fun h => h, fun h => h⟩ ?_ | refine .inl ⟨_, _, DleAll_refl _, e12, ?_⟩ | refine ⟨_, _, DleAll_refl _, fun _ => e12, ?_⟩ | refine ⟨_, _, DleAll_refl _, e12, ?_⟩ | refine .inl ⟨_, _, DleAll_refl _, e14, ?_⟩ | refine ⟨_, _, DleAll_refl _, fun _ => e14, ?_⟩ | refine ⟨_, _, DleAll_refl _, e14, ?_⟩ | refine .inl ⟨_, _, DleAll_refl _, e4, ?_⟩ | refine ⟨_, _, DleAll_refl _, fun _ => e4, ?_⟩ | refine ⟨_, _, DleAll_refl _, e4, ?_⟩ | refine .inl ⟨_, _, DleAll_refl _, e60, ?_⟩ | refine ⟨_, _, DleAll_refl _, fun _ => e60, ?_⟩ | refine ⟨_, _, DleAll_refl _, e60, ?_⟩ | refine .inl ⟨_, _, DleAll_refl _, mY (by assumption), ?_⟩ | refine ⟨_, _, DleAll_refl _, fun _ => mY (by assumption), ?_⟩ | refine ⟨_, _, DleAll_refl _, mY (by assumption), ?_⟩ | refine .inl ⟨_, _, DleAll_refl _, mN (by assumption), ?_⟩ | refine ⟨_, _, DleAll_refl _, fun _ => mN (by assumption), ?_⟩ | refine ⟨_, _, DleAll_refl _, mN (by assumption), ?_⟩ | refine Exists.intro false ?_ | (refine And.intro ?_ ?_; focus (simp; done)) | fail)
  all_goals (conv => whnf)
  rw [h2'] at h
  cases h
set_option maxHeartbeats 8000000 in
theorem c_rR_accd (s : Agr) (hA : AW s) (hf : few s) (m : Msg) (h1 : agrB s = true) (h2 : m.view = s.view.num) (h3 : vmB s.view m = true) (h4 : m.src ≠ s.self) (h5 : s.dec = []) (h6 : m.kind = 5) :
    Ret Tryz.prog 9 [.agg (agrE s), .agg (msgE m)] (.tup [.agg (agrE (endA (({ s with accs := enterR s.view s.accs ⟨m.src, m.rank, m.cut⟩ }, ([] : List Pkt))).1 (({ s with accs := enterR s.view s.accs ⟨m.src, m.rank, m.cut⟩ }, ([] : List Pkt))).2).1), .lst 7 ((endA (({ s with accs := enterR s.view s.accs ⟨m.src, m.rank, m.cut⟩ }, ([] : List Pkt))).1 (({ s with accs := enterR s.view s.accs ⟨m.src, m.rank, m.cut⟩ }, ([] : List Pkt))).2).2.map pktE) false, i64 0]) := by
  have hs := sm_aw hA
  have hv := hs.mem
  have hc := msg_len h3
  have e12 := c_ref10_Valid s hs
  have e14 := c_ref10_ValidMessage s.view (by omega) m (by omega)
  have e3 := c_ref10_enter s.view s.accs (by have := hs.accs; omega) hA.accs ⟨m.src, m.rank, m.cut⟩ (vm_rpt h3 (.inr h6))
  have mend := c_ref10_finish_nil _ (nice_accd hA hf h3 h6).1
  simp only [] at mend
  generalize endA { s with accs := enterR s.view s.accs ⟨m.src, m.rank, m.cut⟩ } [] = E at *
  rw [h1] at e12
  rw [h3] at e14
  have h4' : decide (m.src = s.self) = false := decide_eq_false h4
  have h2' : decide (m.view = s.view.num) = true := decide_eq_true h2
  have h5' : decide (0 < ((s.dec.map intE).length : Int)) = false := by rw [h5]; rfl
  have h6a : decide (m.kind = 1) = false := decide_eq_false (by omega)
  have h6b : decide (m.kind = 2) = false := decide_eq_false (by omega)
  have h6c : decide (m.kind = 3) = false := decide_eq_false (by omega)
  have h6d : decide (m.kind = 4) = false := decide_eq_false (by omega)
  have h6e : decide (m.kind = 5) = true := decide_eq_true h6
  refine ret_of_body (fn := Tryz.f9) (c := Tryz.f9.body.getD .skip) hm hT (by kernel_rfl) Tryz.func9 (by kernel_rfl) (by kernel_rfl) (by kernel_rfl) (by kernel_rfl) ?_
  repeat' ((conv => whnf); first | refine And.intro (fun h => h) ?_ | refine dcond_t (by assumption) ?_ | refine dcond_f (by assumption) ?_ | (refine dcond_intro ?_ ?_ <;> intro h) | exact .refl | refine And.intro (by kernel_rfl) ?_ | refine And.intro ⟨fun h => h, fun h => h⟩ ?_ | refine .inl ⟨_, _, DleAll_refl _, e12, ?_⟩ | refine ⟨_, _, DleAll_refl _, fun _ => e12, ?_⟩ | refine ⟨_, _, DleAll_refl _, e12, ?_⟩ | refine .inl ⟨_, _, DleAll_refl _, e14, ?_⟩ | refine ⟨_, _, DleAll_refl _, fun _ => e14, ?_⟩ | refine ⟨_, _, DleAll_refl _, e14, ?_⟩ | refine .inl ⟨_, _, DleAll_refl _, e3, ?_⟩ | refine ⟨_, _, DleAll_refl _, fun _ => e3, ?_⟩ | refine ⟨_, _, DleAll_refl _, e3, ?_⟩ | refine .inl ⟨_, _, DleAll_refl _, mend, ?_⟩ | refine ⟨_, _, DleAll_refl _, fun _ => mend, ?_⟩ | refine ⟨_, _, DleAll_refl _, mend, ?_⟩ | refine Exists.intro false ?_ | (refine And.intro ?_ ?_; focus (simp; done)) | fail)
  all_goals (conv => whnf)
  rw [h2'] at h
  cases h
set_option maxHeartbeats 8000000 in
theorem c_rR_deci (s : Agr) (hA : AW s) (hf : few s) (m : Msg) (h1 : agrB s = true) (h2 : m.view = s.view.num) (h3 : vmB s.view m = true) (h4 : m.src ≠ s.self) (h5 : s.dec = []) (h6 : m.kind = 6) :
    Ret Tryz.prog 9 [.agg (agrE s), .agg (msgE m)] (.tup [.agg (agrE (endA (({ s with dec := m.cut }, [pktOf s 0 6 0 0 m.cut])).1 (({ s with dec := m.cut }, [pktOf s 0 6 0 0 m.cut])).2).1), .lst 7 ((endA (({ s with dec := m.cut }, [pktOf s 0 6 0 0 m.cut])).1 (({ s with dec := m.cut }, [pktOf s 0 6 0 0 m.cut])).2).2.map pktE) false, i64 0]) := by
  have hs := sm_aw hA
  have hv := hs.mem
  have hc := msg_len h3
  have e12 := c_ref10_Valid s hs
  have e14 := c_ref10_ValidMessage s.view (by omega) m (by omega)
  have e3 := c_ref10_all { s with dec := m.cut } 6 0 m.cut
  have mend := m_ref10_finish_own _ (nice_deci hA hf h3 h6).1 [pktOf s 0 6 0 0 m.cut] (by simp)
  simp only [] at mend
  generalize endA { s with dec := m.cut } [pktOf s 0 6 0 0 m.cut] = E at *
  rw [h1] at e12
  rw [h3] at e14
  have h4' : decide (m.src = s.self) = false := decide_eq_false h4
  have h2' : decide (m.view = s.view.num) = true := decide_eq_true h2
  have h5' : decide (0 < ((s.dec.map intE).length : Int)) = false := by rw [h5]; rfl
  have h6a : decide (m.kind = 1) = false := decide_eq_false (by omega)
  have h6b : decide (m.kind = 2) = false := decide_eq_false (by omega)
  have h6c : decide (m.kind = 3) = false := decide_eq_false (by omega)
  have h6d : decide (m.kind = 4) = false := decide_eq_false (by omega)
  have h6e : decide (m.kind = 5) = false := decide_eq_false (by omega)
  have h6f : decide (m.kind = 6) = true := decide_eq_true h6
  refine ret_of_body (fn := Tryz.f9) (c := Tryz.f9.body.getD .skip) hm hT (by kernel_rfl) Tryz.func9 (by kernel_rfl) (by kernel_rfl) (by kernel_rfl) (by kernel_rfl) ?_
  repeat' ((conv => whnf); first | refine And.intro (fun h => h) ?_ | refine dcond_t (by assumption) ?_ | refine dcond_f (by assumption) ?_ | (refine dcond_intro ?_ ?_ <;> intro h) | exact .refl | refine And.intro (by kernel_rfl) ?_ | refine And.intro ⟨fun h => h, fun h => h⟩ ?_ | refine .inl ⟨_, _, DleAll_refl _, e12, ?_⟩ | refine ⟨_, _, DleAll_refl _, fun _ => e12, ?_⟩ | refine ⟨_, _, DleAll_refl _, e12, ?_⟩ | refine .inl ⟨_, _, DleAll_refl _, e14, ?_⟩ | refine ⟨_, _, DleAll_refl _, fun _ => e14, ?_⟩ | refine ⟨_, _, DleAll_refl _, e14, ?_⟩ | refine .inl ⟨_, _, DleAll_refl _, e3, ?_⟩ | refine ⟨_, _, DleAll_refl _, fun _ => e3, ?_⟩ | refine ⟨_, _, DleAll_refl _, e3, ?_⟩ | refine And.intro (fitsP (by simp <;> omega)) ?_ | refine .inr ⟨[2], _, _, _, _, _, mend, by rfl, ⟨.refl, trivial⟩, ⟨.refl, .refl, trivial⟩, ?_⟩ | refine .inr ⟨[3], _, _, _, _, _, mend, by rfl, ⟨.refl, trivial⟩, ⟨.refl, .refl, trivial⟩, ?_⟩ | refine .inr ⟨[4], _, _, _, _, _, mend, by rfl, ⟨.refl, trivial⟩, ⟨.refl, .refl, trivial⟩, ?_⟩ | refine .inr ⟨[5], _, _, _, _, _, mend, by rfl, ⟨.refl, trivial⟩, ⟨.refl, .refl, trivial⟩, ?_⟩ | refine .inr ⟨[6], _, _, _, _, _, mend, by rfl, ⟨.refl, trivial⟩, ⟨.refl, .refl, trivial⟩, ?_⟩ | refine .inr ⟨[7], _, _, _, _, _, mend, by rfl, ⟨.refl, trivial⟩, ⟨.refl, .refl, trivial⟩, ?_⟩ | refine .inr ⟨[8], _, _, _, _, _, mend, by rfl, ⟨.refl, trivial⟩, ⟨.refl, .refl, trivial⟩, ?_⟩ | refine .inr ⟨[9], _, _, _, _, _, mend, by rfl, ⟨.refl, trivial⟩, ⟨.refl, .refl, trivial⟩, ?_⟩ | refine Exists.intro false ?_ | (refine And.intro ?_ ?_; focus (simp; done)) | fail)
  all_goals (conv => whnf)
  rw [h2'] at h
  cases h
end Go.Proofs.YtmbniilpgbjcfaaGreat

set_option maxRecDepth 100000
namespace Go.Proofs.YtmbniilpgbjcfaaGreat
open Go.Lift
set_option maxHeartbeats 8000000 in
theorem c_rR_prep (s : Agr) (hA : AW s) (hf : few s) (m : Msg) (h1 : agrB s = true) (h2 : m.view = s.view.num) (h3 : vmB s.view m = true) (h4 : m.src ≠ s.self) (h5 : s.dec = []) (h6 : m.kind = 2) :
    Ret Tryz.prog 9 [.agg (agrE s), .agg (msgE m)] (.tup [.agg (agrE (endA (prepA s m).1 (prepA s m).2).1), .lst 7 ((endA (prepA s m).1 (prepA s m).2).2.map pktE) false, i64 0]) := by
  have hs := sm_aw hA
  have hv := hs.mem
  have hc := msg_len h3
  have e12 := c_ref10_Valid s hs
  have e14 := c_ref10_ValidMessage s.view (by omega) m (by omega)
  have e1 := c_ref9_OnPrepare s.acc (mx hs.acut) m.rank
  have hN := (nice_prep hA hf h3 h6 h4).1
  obtain ⟨R, hR⟩ : ∃ R, R = prepA s m := ⟨_, rfl⟩
  rw [← hR] at hN ⊢
  unfold prepA at hR
  generalize prepR s.acc m.rank = X at *
  have e2 := c_ref10_message { s with acc := X.1 } 3 m.rank X.2.1.rank X.2.1.cut
  have e3 := c_ref10_idle { s with acc := X.1 }
  have e4 := c_ref10_idle s
  have fo := fun ps hps => m_ref10_finish_own R.1 hN ps hps
  have fn := c_ref10_finish_nil R.1 hN
  obtain ⟨E, hE⟩ : ∃ E, E = endA R.1 R.2 := ⟨_, rfl⟩
  rw [← hE]
  have fYY : X.2.2 = true → (decide (s.rank < m.rank) && !decide (s.phase = 0)) = true → RetM Tryz.prog 29 [.row 48 7 ([pktOf s m.src 3 m.rank X.2.1.rank X.2.1.cut].map pktE)] [.agg (agrE (idleA { s with acc := X.1 })), .own 0] [false] [.dead] (.tup [.agg (agrE E.1), .lst 7 (E.2.map pktE) false]) := fun a b => by
    simp only [a, b, cond_true] at hR
    subst hR
    rw [hE]
    exact fo _ (by simp)
  have fYN : X.2.2 = true → (decide (s.rank < m.rank) && !decide (s.phase = 0)) = false → RetM Tryz.prog 29 [.row 48 7 ([pktOf s m.src 3 m.rank X.2.1.rank X.2.1.cut].map pktE)] [.agg (agrE { s with acc := X.1 }), .own 0] [false] [.dead] (.tup [.agg (agrE E.1), .lst 7 (E.2.map pktE) false]) := fun a b => by
    simp only [a, b, cond_true, cond_false] at hR
    subst hR
    rw [hE]
    exact fo _ (by simp)
  have fNY : X.2.2 = false → (decide (s.rank < m.rank) && !decide (s.phase = 0)) = true → Ret Tryz.prog 29 [.agg (agrE (idleA s)), .nl] (.tup [.agg (agrE E.1), .lst 7 (E.2.map pktE) false]) := fun a b => by
    simp only [a, b, cond_true, cond_false] at hR
    subst hR
    rw [hE]
    exact fn
  have fNN : X.2.2 = false → (decide (s.rank < m.rank) && !decide (s.phase = 0)) = false → Ret Tryz.prog 29 [.agg (agrE s), .nl] (.tup [.agg (agrE E.1), .lst 7 (E.2.map pktE) false]) := fun a b => by
    simp only [a, b, cond_false] at hR
    subst hR
    rw [hE]
    exact fn
  clear fo fn hE hR hN
  rw [h1] at e12
  rw [h3] at e14
  have h4' : decide (m.src = s.self) = false := decide_eq_false h4
  have h2' : decide (m.view = s.view.num) = true := decide_eq_true h2
  have h5' : decide (0 < ((s.dec.map intE).length : Int)) = false := by rw [h5]; rfl
  have h6a : decide (m.kind = 1) = false := decide_eq_false (by omega)
  have h6b : decide (m.kind = 2) = true := decide_eq_true h6
  refine ret_of_body (fn := Tryz.f9) (c := Tryz.f9.body.getD .skip) hm hT (by kernel_rfl) Tryz.func9 (by kernel_rfl) (by kernel_rfl) (by kernel_rfl) (by kernel_rfl) ?_
  repeat' ((conv => whnf); first | refine And.intro (fun h => h) ?_ | refine dcond_t (by assumption) ?_ | refine dcond_f (by assumption) ?_ | (refine dcond_intro ?_ ?_ <;> intro h) | exact .refl | refine And.intro (by kernel_rfl) ?_ | refine And.intro ⟨fun h => h, fun h => h⟩ ?_ | refine .inl ⟨_, _, DleAll_refl _, e12, ?_⟩ | refine ⟨_, _, DleAll_refl _, fun _ => e12, ?_⟩ | refine ⟨_, _, DleAll_refl _, e12, ?_⟩ | refine .inl ⟨_, _, DleAll_refl _, e14, ?_⟩ | refine ⟨_, _, DleAll_refl _, fun _ => e14, ?_⟩ | refine ⟨_, _, DleAll_refl _, e14, ?_⟩ | refine .inl ⟨_, _, DleAll_refl _, e1, ?_⟩ | refine ⟨_, _, DleAll_refl _, fun _ => e1, ?_⟩ | refine ⟨_, _, DleAll_refl _, e1, ?_⟩ | refine .inl ⟨_, _, DleAll_refl _, e2, ?_⟩ | refine ⟨_, _, DleAll_refl _, fun _ => e2, ?_⟩ | refine ⟨_, _, DleAll_refl _, e2, ?_⟩ | refine And.intro (fitsP (by simp <;> omega)) ?_ | refine .inl ⟨_, _, DleAll_refl _, e3, ?_⟩ | refine ⟨_, _, DleAll_refl _, fun _ => e3, ?_⟩ | refine ⟨_, _, DleAll_refl _, e3, ?_⟩ | refine .inl ⟨_, _, DleAll_refl _, e4, ?_⟩ | refine ⟨_, _, DleAll_refl _, fun _ => e4, ?_⟩ | refine ⟨_, _, DleAll_refl _, e4, ?_⟩ | refine .inl ⟨_, _, DleAll_refl _, fNY (by assumption) (by assumption), ?_⟩ | refine ⟨_, _, DleAll_refl _, fun _ => fNY (by assumption) (by assumption), ?_⟩ | refine ⟨_, _, DleAll_refl _, fNY (by assumption) (by assumption), ?_⟩ | refine .inl ⟨_, _, DleAll_refl _, fNN (by assumption) (by assumption), ?_⟩ | refine ⟨_, _, DleAll_refl _, fun _ => fNN (by assumption) (by assumption), ?_⟩ | refine ⟨_, _, DleAll_refl _, fNN (by assumption) (by assumption), ?_⟩ | refine .inr ⟨[2], _, _, _, _, _, fYY (by assumption) (by assumption), by rfl, ⟨.refl, trivial⟩, ⟨.refl, .refl, trivial⟩, ?_⟩ | refine .inr ⟨[3], _, _, _, _, _, fYY (by assumption) (by assumption), by rfl, ⟨.refl, trivial⟩, ⟨.refl, .refl, trivial⟩, ?_⟩ | refine .inr ⟨[4], _, _, _, _, _, fYY (by assumption) (by assumption), by rfl, ⟨.refl, trivial⟩, ⟨.refl, .refl, trivial⟩, ?_⟩ | refine .inr ⟨[5], _, _, _, _, _, fYY (by assumption) (by assumption), by rfl, ⟨.refl, trivial⟩, ⟨.refl, .refl, trivial⟩, ?_⟩ | refine .inr ⟨[6], _, _, _, _, _, fYY (by assumption) (by assumption), by rfl, ⟨.refl, trivial⟩, ⟨.refl, .refl, trivial⟩, ?_⟩ | refine .inr ⟨[7], _, _, _, _, _, fYY (by assumption) (by assumption), by rfl, ⟨.refl, trivial⟩, ⟨.refl, .refl, trivial⟩, ?_⟩ | refine .inr ⟨[8], _, _, _, _, _, fYY (by assumption) (by assumption), by rfl, ⟨.refl, trivial⟩, ⟨.refl, .refl, trivial⟩, ?_⟩ | refine .inr ⟨[9], _, _, _, _, _, fYY (by assumption) (by assumption), by rfl, ⟨.refl, trivial⟩, ⟨.refl, .refl, trivial⟩, ?_⟩ | refine .inr ⟨[2], _, _, _, _, _, fYN (by assumption) (by assumption), by rfl, ⟨.refl, trivial⟩, ⟨.refl, .refl, trivial⟩, ?_⟩ | refine .inr ⟨[3], _, _, _, _, _, fYN (by assumption) (by assumption), by rfl, ⟨.refl, trivial⟩, ⟨.refl, .refl, trivial⟩, ?_⟩ | refine .inr ⟨[4], _, _, _, _, _, fYN (by assumption) (by assumption), by rfl, ⟨.refl, trivial⟩, ⟨.refl, .refl, trivial⟩, ?_⟩ | refine .inr ⟨[5], _, _, _, _, _, fYN (by assumption) (by assumption), by rfl, ⟨.refl, trivial⟩, ⟨.refl, .refl, trivial⟩, ?_⟩ | refine .inr ⟨[6], _, _, _, _, _, fYN (by assumption) (by assumption), by rfl, ⟨.refl, trivial⟩, ⟨.refl, .refl, trivial⟩, ?_⟩ | refine .inr ⟨[7], _, _, _, _, _, fYN (by assumption) (by assumption), by rfl, ⟨.refl, trivial⟩, ⟨.refl, .refl, trivial⟩, ?_⟩ | refine .inr ⟨[8], _, _, _, _, _, fYN (by assumption) (by assumption), by rfl, ⟨.refl, trivial⟩, ⟨.refl, .refl, trivial⟩, ?_⟩ | refine .inr ⟨[9], _, _, _, _, _, fYN (by assumption) (by assumption), by rfl, ⟨.refl, trivial⟩, ⟨.refl, .refl, trivial⟩, ?_⟩ | refine Exists.intro false ?_ | (refine And.intro ?_ ?_; focus (simp; done)) | fail)
  all_goals (conv => whnf)
  rw [h2'] at h
  cases h
end Go.Proofs.YtmbniilpgbjcfaaGreat

set_option maxRecDepth 100000
namespace Go.Proofs.YtmbniilpgbjcfaaGreat
open Go.Lift
set_option maxHeartbeats 8000000 in
theorem c_rR_prom (s : Agr) (hA : AW s) (hf : few s) (m : Msg) (h1 : agrB s = true) (h2 : m.view = s.view.num) (h3 : vmB s.view m = true) (h4 : m.src ≠ s.self) (h5 : s.dec = []) (h6 : m.kind = 3) :
    Ret Tryz.prog 9 [.agg (agrE s), .agg (msgE m)] (.tup [.agg (agrE (endA (promA s m).1 (promA s m).2).1), .lst 7 ((endA (promA s m).1 (promA s m).2).2.map pktE) false, i64 0]) := by
  have hs := sm_aw hA
  have hv := hs.mem
  have hc := msg_len h3
  have e12 := c_ref10_Valid s hs
  have e14 := c_ref10_ValidMessage s.view (by omega) m (by omega)
  have e1 := c_ref9_AddReport s.view (by omega) s.reps (by have := hs.reps; omega) (fun b hb => by have := hs.repc b hb; omega) ⟨m.src, m.last, m.cut⟩ (by simp only []; omega)
  rw [add_eq] at e1
  have hN := (nice_prom hA hf h3 h6).1
  have hA2 := fun h => aw_reps hA h3 h6 (of_decide_eq_true h)
  obtain ⟨R, hR⟩ : ∃ R, R = promA s m := ⟨_, rfl⟩
  rw [← hR] at hN ⊢
  unfold promA at hR
  generalize addR s.view s.reps ⟨m.src, m.last, m.cut⟩ = X at *
  have e2 := fun h => c_ref10_majority _ (hA2 h)
  clear hA2
  generalize advA { s with reps := X.1 } = A at *
  have e3 := c_ref10_all A 4 A.rank A.cho
  have fo := fun ps hps => m_ref10_finish_own R.1 hN ps hps
  have fn := c_ref10_finish_nil R.1 hN
  obtain ⟨E, hE⟩ : ∃ E, E = endA R.1 R.2 := ⟨_, rfl⟩
  rw [← hE]
  have hor : (decide (s.phase = 1) && decide (m.rank = s.rank)) = true → (!decide (s.phase = 1) || !decide (m.rank = s.rank)) = false := fun h => by
    cases hp : decide (s.phase = 1) <;> cases hq : decide (m.rank = s.rank) <;> simp_all
  have hor2 : (decide (s.phase = 1) && decide (m.rank = s.rank)) = false → (!decide (s.phase = 1) || !decide (m.rank = s.rank)) = true := fun h => by
    cases hp : decide (s.phase = 1) <;> cases hq : decide (m.rank = s.rank) <;> simp_all
  have e5 : (decide (s.phase = 1) && decide (m.rank = s.rank)) = true → Ret Tryz.prog 41 [.agg (agrE { s with reps := X.1 })] (.agg (agrE A)) := fun h => e2 ((Bool.and_eq_true ..).mp h).1
  have fY : (decide (s.phase = 1) && decide (m.rank = s.rank)) = true → decide (A.phase = 2) = true → RetM Tryz.prog 29 [.row 48 7 ([pktOf A 0 4 A.rank 0 A.cho].map pktE)] [.agg (agrE A), .own 0] [false] [.dead] (.tup [.agg (agrE E.1), .lst 7 (E.2.map pktE) false]) := fun a b => by
    simp only [hor a, b, cond_true, cond_false] at hR
    subst hR
    rw [hE]
    exact fo _ (by simp)
  have fN : (decide (s.phase = 1) && decide (m.rank = s.rank)) = true → decide (A.phase = 2) = false → Ret Tryz.prog 29 [.agg (agrE A), .nl] (.tup [.agg (agrE E.1), .lst 7 (E.2.map pktE) false]) := fun a b => by
    simp only [hor a, b, cond_true, cond_false] at hR
    subst hR
    rw [hE]
    exact fn
  have fO : (decide (s.phase = 1) && decide (m.rank = s.rank)) = false → Ret Tryz.prog 29 [.agg (agrE s), .nl] (.tup [.agg (agrE E.1), .lst 7 (E.2.map pktE) false]) := fun a => by
    simp only [hor2 a, cond_true, cond_false] at hR
    subst hR
    rw [hE]
    exact fn
  clear fo fn hE hR hN e2 hor hor2
  rw [h1] at e12
  rw [h3] at e14
  have h4' : decide (m.src = s.self) = false := decide_eq_false h4
  have h2' : decide (m.view = s.view.num) = true := decide_eq_true h2
  have h5' : decide (0 < ((s.dec.map intE).length : Int)) = false := by rw [h5]; rfl
  have h6a : decide (m.kind = 1) = false := decide_eq_false (by omega)
  have h6b : decide (m.kind = 2) = false := decide_eq_false (by omega)
  have h6c : decide (m.kind = 3) = true := decide_eq_true h6
  refine ret_of_body (fn := Tryz.f9) (c := Tryz.f9.body.getD .skip) hm hT (by kernel_rfl) Tryz.func9 (by kernel_rfl) (by kernel_rfl) (by kernel_rfl) (by kernel_rfl) ?_
  repeat' ((conv => whnf); first | refine And.intro (fun h => h) ?_ | refine dcond_t (by assumption) ?_ | refine dcond_f (by assumption) ?_ | (refine dcond_intro ?_ ?_ <;> intro h) | exact .refl | refine And.intro (by kernel_rfl) ?_ | refine And.intro ⟨fun h => h, fun h => h⟩ ?_ | refine .inl ⟨_, _, DleAll_refl _, e12, ?_⟩ | refine ⟨_, _, DleAll_refl _, fun _ => e12, ?_⟩ | refine ⟨_, _, DleAll_refl _, e12, ?_⟩ | refine .inl ⟨_, _, DleAll_refl _, e14, ?_⟩ | refine ⟨_, _, DleAll_refl _, fun _ => e14, ?_⟩ | refine ⟨_, _, DleAll_refl _, e14, ?_⟩ | refine .inl ⟨_, _, DleAll_refl _, e1, ?_⟩ | refine ⟨_, _, DleAll_refl _, fun _ => e1, ?_⟩ | refine ⟨_, _, DleAll_refl _, e1, ?_⟩ | refine .inl ⟨_, _, DleAll_refl _, e5 (by assumption), ?_⟩ | refine ⟨_, _, DleAll_refl _, fun _ => e5 (by assumption), ?_⟩ | refine ⟨_, _, DleAll_refl _, e5 (by assumption), ?_⟩ | refine And.intro (fitsP (by simp <;> omega)) ?_ | refine .inl ⟨_, _, DleAll_refl _, e3, ?_⟩ | refine ⟨_, _, DleAll_refl _, fun _ => e3, ?_⟩ | refine ⟨_, _, DleAll_refl _, e3, ?_⟩ | refine .inl ⟨_, _, DleAll_refl _, fN (by assumption) (by assumption), ?_⟩ | refine ⟨_, _, DleAll_refl _, fun _ => fN (by assumption) (by assumption), ?_⟩ | refine ⟨_, _, DleAll_refl _, fN (by assumption) (by assumption), ?_⟩ | refine .inl ⟨_, _, DleAll_refl _, fO (by assumption), ?_⟩ | refine ⟨_, _, DleAll_refl _, fun _ => fO (by assumption), ?_⟩ | refine ⟨_, _, DleAll_refl _, fO (by assumption), ?_⟩ | refine .inr ⟨[2], _, _, _, _, _, fY (by assumption) (by assumption), by rfl, ⟨.refl, trivial⟩, ⟨.refl, .refl, trivial⟩, ?_⟩ | refine .inr ⟨[3], _, _, _, _, _, fY (by assumption) (by assumption), by rfl, ⟨.refl, trivial⟩, ⟨.refl, .refl, trivial⟩, ?_⟩ | refine .inr ⟨[4], _, _, _, _, _, fY (by assumption) (by assumption), by rfl, ⟨.refl, trivial⟩, ⟨.refl, .refl, trivial⟩, ?_⟩ | refine .inr ⟨[5], _, _, _, _, _, fY (by assumption) (by assumption), by rfl, ⟨.refl, trivial⟩, ⟨.refl, .refl, trivial⟩, ?_⟩ | refine .inr ⟨[6], _, _, _, _, _, fY (by assumption) (by assumption), by rfl, ⟨.refl, trivial⟩, ⟨.refl, .refl, trivial⟩, ?_⟩ | refine .inr ⟨[7], _, _, _, _, _, fY (by assumption) (by assumption), by rfl, ⟨.refl, trivial⟩, ⟨.refl, .refl, trivial⟩, ?_⟩ | refine .inr ⟨[8], _, _, _, _, _, fY (by assumption) (by assumption), by rfl, ⟨.refl, trivial⟩, ⟨.refl, .refl, trivial⟩, ?_⟩ | refine .inr ⟨[9], _, _, _, _, _, fY (by assumption) (by assumption), by rfl, ⟨.refl, trivial⟩, ⟨.refl, .refl, trivial⟩, ?_⟩ | refine Exists.intro false ?_ | (refine And.intro ?_ ?_; focus (simp; done)) | fail)
  all_goals (conv => whnf)
  rw [h2'] at h
  cases h
end Go.Proofs.YtmbniilpgbjcfaaGreat

set_option maxRecDepth 100000
namespace Go.Proofs.YtmbniilpgbjcfaaGreat
open Go.Lift
set_option maxHeartbeats 8000000 in
theorem c_rR_acct (s : Agr) (hA : AW s) (hf : few s) (m : Msg) (h1 : agrB s = true) (h2 : m.view = s.view.num) (h3 : vmB s.view m = true) (h4 : m.src ≠ s.self) (h5 : s.dec = []) (h6 : m.kind = 4) :
    Ret Tryz.prog 9 [.agg (agrE s), .agg (msgE m)] (.tup [.agg (agrE (endA (acctA s m).1 (acctA s m).2).1), .lst 7 ((endA (acctA s m).1 (acctA s m).2).2.map pktE) false, i64 0]) := by
  have hs := sm_aw hA
  have hv := hs.mem
  have hc := msg_len h3
  have e12 := c_ref10_Valid s hs
  have e14 := c_ref10_ValidMessage s.view (by omega) m (by omega)
  have e1 := c_ref10_enter s.view s.accs (by have := hs.accs; omega) hA.accs ⟨m.src, m.rank, m.cut⟩ (vm_rpt h3 (.inl h6))
  have e2 := c_ref9_OnAccept s.acc (mx hs.acut) m.rank m.cut (mx (by omega))
  have hok2 := enter_reps hA.v hA.accs (vm_rpt h3 (.inl h6))
  have hl2 := @enter_len s.view s.accs ⟨m.src, m.rank, m.cut⟩
  have hr2 : vrB s.view ⟨s.self, m.rank, m.cut⟩ = true := vr_mk hA.self (proper_use ((vm_body h3).2.2.2.1 h6).1).1 ((vm_body h3).2.2.2.1 h6).2.2
  have hN := (nice_acct hA hf h3 h6).1
  have hal := hs.accs
  obtain ⟨R, hR⟩ : ∃ R, R = acctA s m := ⟨_, rfl⟩
  rw [← hR] at hN ⊢
  unfold acctA at hR
  generalize acceptR s.acc m.rank m.cut = X at *
  generalize enterR s.view s.accs ⟨m.src, m.rank, m.cut⟩ = Q at *
  have e3 := c_ref10_enter s.view Q (by omega) hok2 ⟨s.self, m.rank, m.cut⟩ hr2
  generalize enterR s.view Q ⟨s.self, m.rank, m.cut⟩ = Z at *
  have e4 := c_ref10_all { s with acc := X.1, accs := Z } 5 m.rank m.cut
  have fo := fun ps hps => m_ref10_finish_own R.1 hN ps hps
  have fn := c_ref10_finish_nil R.1 hN
  obtain ⟨E, hE⟩ : ∃ E, E = endA R.1 R.2 := ⟨_, rfl⟩
  rw [← hE]
  have fY : X.2 = true → RetM Tryz.prog 29 [.row 48 7 ([pktOf s 0 5 m.rank 0 m.cut].map pktE)] [.agg (agrE { s with acc := X.1, accs := Z }), .own 0] [false] [.dead] (.tup [.agg (agrE E.1), .lst 7 (E.2.map pktE) false]) := fun b => by
    simp only [b, cond_true, cond_false] at hR
    subst hR
    rw [hE]
    exact fo _ (by simp)
  have fN : X.2 = false → Ret Tryz.prog 29 [.agg (agrE { s with accs := Q }), .nl] (.tup [.agg (agrE E.1), .lst 7 (E.2.map pktE) false]) := fun b => by
    simp only [b, cond_true, cond_false] at hR
    subst hR
    rw [hE]
    exact fn
  clear fo fn hE hR hN
  rw [h1] at e12
  rw [h3] at e14
  have h4' : decide (m.src = s.self) = false := decide_eq_false h4
  have h2' : decide (m.view = s.view.num) = true := decide_eq_true h2
  have h5' : decide (0 < ((s.dec.map intE).length : Int)) = false := by rw [h5]; rfl
  have h6a : decide (m.kind = 1) = false := decide_eq_false (by omega)
  have h6b : decide (m.kind = 2) = false := decide_eq_false (by omega)
  have h6c : decide (m.kind = 3) = false := decide_eq_false (by omega)
  have h6d : decide (m.kind = 4) = true := decide_eq_true h6
  refine ret_of_body (fn := Tryz.f9) (c := Tryz.f9.body.getD .skip) hm hT (by kernel_rfl) Tryz.func9 (by kernel_rfl) (by kernel_rfl) (by kernel_rfl) (by kernel_rfl) ?_
  repeat' ((conv => whnf); first | refine And.intro (fun h => h) ?_ | refine dcond_t (by assumption) ?_ | refine dcond_f (by assumption) ?_ | (refine dcond_intro ?_ ?_ <;> intro h) | exact .refl | refine And.intro (by kernel_rfl) ?_ | refine And.intro ⟨fun h => h, fun h => h⟩ ?_ | refine .inl ⟨_, _, DleAll_refl _, e12, ?_⟩ | refine ⟨_, _, DleAll_refl _, fun _ => e12, ?_⟩ | refine ⟨_, _, DleAll_refl _, e12, ?_⟩ | refine .inl ⟨_, _, DleAll_refl _, e14, ?_⟩ | refine ⟨_, _, DleAll_refl _, fun _ => e14, ?_⟩ | refine ⟨_, _, DleAll_refl _, e14, ?_⟩ | refine .inl ⟨_, _, DleAll_refl _, e1, ?_⟩ | refine ⟨_, _, DleAll_refl _, fun _ => e1, ?_⟩ | refine ⟨_, _, DleAll_refl _, e1, ?_⟩ | refine .inl ⟨_, _, DleAll_refl _, e2, ?_⟩ | refine ⟨_, _, DleAll_refl _, fun _ => e2, ?_⟩ | refine ⟨_, _, DleAll_refl _, e2, ?_⟩ | refine .inl ⟨_, _, DleAll_refl _, e3, ?_⟩ | refine ⟨_, _, DleAll_refl _, fun _ => e3, ?_⟩ | refine ⟨_, _, DleAll_refl _, e3, ?_⟩ | refine .inl ⟨_, _, DleAll_refl _, e4, ?_⟩ | refine ⟨_, _, DleAll_refl _, fun _ => e4, ?_⟩ | refine ⟨_, _, DleAll_refl _, e4, ?_⟩ | refine And.intro (fitsP (by simp <;> omega)) ?_ | refine .inl ⟨_, _, DleAll_refl _, fN (by assumption), ?_⟩ | refine ⟨_, _, DleAll_refl _, fun _ => fN (by assumption), ?_⟩ | refine ⟨_, _, DleAll_refl _, fN (by assumption), ?_⟩ | refine .inr ⟨[2], _, _, _, _, _, fY (by assumption), by rfl, ⟨.refl, trivial⟩, ⟨.refl, .refl, trivial⟩, ?_⟩ | refine .inr ⟨[3], _, _, _, _, _, fY (by assumption), by rfl, ⟨.refl, trivial⟩, ⟨.refl, .refl, trivial⟩, ?_⟩ | refine .inr ⟨[4], _, _, _, _, _, fY (by assumption), by rfl, ⟨.refl, trivial⟩, ⟨.refl, .refl, trivial⟩, ?_⟩ | refine .inr ⟨[5], _, _, _, _, _, fY (by assumption), by rfl, ⟨.refl, trivial⟩, ⟨.refl, .refl, trivial⟩, ?_⟩ | refine .inr ⟨[6], _, _, _, _, _, fY (by assumption), by rfl, ⟨.refl, trivial⟩, ⟨.refl, .refl, trivial⟩, ?_⟩ | refine .inr ⟨[7], _, _, _, _, _, fY (by assumption), by rfl, ⟨.refl, trivial⟩, ⟨.refl, .refl, trivial⟩, ?_⟩ | refine .inr ⟨[8], _, _, _, _, _, fY (by assumption), by rfl, ⟨.refl, trivial⟩, ⟨.refl, .refl, trivial⟩, ?_⟩ | refine .inr ⟨[9], _, _, _, _, _, fY (by assumption), by rfl, ⟨.refl, trivial⟩, ⟨.refl, .refl, trivial⟩, ?_⟩ | refine Exists.intro false ?_ | (refine And.intro ?_ ?_; focus (simp; done)) | fail)
  all_goals (conv => whnf)
  rw [h2'] at h
  cases h
end Go.Proofs.YtmbniilpgbjcfaaGreat

set_option maxRecDepth 100000
namespace Go.Proofs.YtmbniilpgbjcfaaGreat
open Go.Lift
theorem c_ref10_Receive (s : Agr) (hs : SmA s) (m : Msg) (hc : m.cut.length ≤ 1000) :
    Ret Tryz.prog 9 [.agg (agrE s), .agg (msgE m)] (.tup [.agg (agrE (recA s m).1), .lst 7 ((recA s m).2.1.map pktE) false, i64 (recA s m).2.2]) := by
  unfold recA
  by_cases h1 : agrB s = false
  · rw [if_pos h1]
    exact c_rR_inv s hs m h1
  rw [if_neg h1]
  have h1 : agrB s = true := by simpa using h1
  by_cases h2 : decide (m.view = s.view.num) = false
  · rw [if_pos h2]
    exact c_rR_old s hs m h1 h2
  rw [if_neg h2]
  have h2 : decide (m.view = s.view.num) = true := by simpa using h2
  by_cases h3 : (!vmB s.view m || decide (m.src = s.self)) = true
  · rw [if_pos h3]
    exact c_rR_bad s hs m hc h1 h2 h3
  rw [if_neg h3]
  have h3 : (!vmB s.view m || decide (m.src = s.self)) = false := by simpa using h3
  by_cases h5 : decide (0 < (s.dec.length : Int)) = true
  · rw [if_pos h5]
    exact c_rR_dec s hs m hc h1 h2 h3 h5
  rw [if_neg h5]
  have h5' : s.dec = [] := by
    have : s.dec.length = 0 := by
      simp at h5
      rw [h5]
      rfl
    exact List.length_eq_zero_iff.1 this
  have h2' := of_decide_eq_true h2
  simp only [Bool.or_eq_false_iff, Bool.not_eq_false', decide_eq_false_iff_not] at h3
  obtain ⟨hA, hf⟩ := (agr_iff s).1 h1
  unfold actA
  rcases vm_kind h3.1 with hk | hk | hk | hk | hk | hk
  · rw [if_pos hk]
    exact c_rR_vote s hA hf m h1 h2' h3.1 h3.2 h5' hk
  · rw [if_neg (by omega), if_pos hk]
    exact c_rR_prep s hA hf m h1 h2' h3.1 h3.2 h5' hk
  · rw [if_neg (by omega), if_neg (by omega), if_pos hk]
    exact c_rR_prom s hA hf m h1 h2' h3.1 h3.2 h5' hk
  · rw [if_neg (by omega), if_neg (by omega), if_neg (by omega), if_pos hk]
    exact c_rR_acct s hA hf m h1 h2' h3.1 h3.2 h5' hk
  · rw [if_neg (by omega), if_neg (by omega), if_neg (by omega), if_neg (by omega), if_pos hk]
    exact c_rR_accd s hA hf m h1 h2' h3.1 h3.2 h5' hk
  · rw [if_neg (by omega), if_neg (by omega), if_neg (by omega), if_neg (by omega), if_neg (by omega)]
    exact c_rR_deci s hA hf m h1 h2' h3.1 h3.2 h5' hk
end Go.Proofs.YtmbniilpgbjcfaaGreat

set_option maxRecDepth 100000
namespace Go.Proofs.YtmbniilpgbjcfaaGreat
open Go.Lift
theorem use_hi {r : Int} (h : usableB r = true) : r < 1073741824 := by
  unfold usableB ownerOf at h
  by_cases h1 : 1073741824 ≤ r
  · rw [decide_eq_true h1] at h
    simp at h
  · omega
theorem att_arg {r p : Int} (hr : 0 ≤ r ∧ r < 1073741824) (hp : 0 ≤ p ∧ p < 1073741824) : ∃ M, IntKind.i64.wrap ((if IntKind.i64.wrap (r.tdiv 1024) < IntKind.i64.wrap (p.tdiv 1024) then IntKind.i64.wrap (p.tdiv 1024) else IntKind.i64.wrap (r.tdiv 1024)) + 1) = M + 1 ∧ r / 1024 ≤ M ∧ p / 1024 ≤ M := by
  have e1 : IntKind.i64.wrap (p.tdiv 1024) = p / 1024 := by
    rw [Int.tdiv_eq_ediv_of_nonneg hp.1]
    exact wrap_i64 (by omega) (by omega)
  have e2 : IntKind.i64.wrap (r.tdiv 1024) = r / 1024 := by
    rw [Int.tdiv_eq_ediv_of_nonneg hr.1]
    exact wrap_i64 (by omega) (by omega)
  rw [e1, e2]
  by_cases h : r / 1024 < p / 1024
  · rw [if_pos h, wrap_i64 (by omega) (by omega)]
    exact ⟨_, rfl, by omega, by omega⟩
  · rw [if_neg h, wrap_i64 (by omega) (by omega)]
    exact ⟨_, rfl, by omega, by omega⟩
theorem att_prep {s : Agr} (h : AW s) (hn : attRank s ≠ 0) : (prepR s.acc (attRank s)).2.2 = true := by
  obtain ⟨hp, _⟩ := att_own h hn
  have hu := (proper_use hp).1
  have hpb : 0 ≤ s.acc.pro ∧ s.acc.pro < 1073741824 := by
    by_cases h0 : s.acc.pro = 0
    · omega
    · have := use_hi (proper_use (h.pro h0)).1
      have := use_pos (proper_use (h.pro h0)).1
      omega
  have hrb : 0 ≤ s.rank ∧ s.rank < 1073741824 := by
    by_cases h0 : s.rank = 0
    · omega
    · have := use_hi (proper_use (h.rank h0).1).1
      have := use_pos (proper_use (h.rank h0).1).1
      omega
  have hle : s.acc.pro < attRank s := by
    obtain ⟨M, e, h1, h2⟩ := att_arg hrb hpb
    unfold attRank at hn ⊢
    rw [e] at hn ⊢
    obtain ⟨_, _, h3, _, h5, _⟩ := rank_own hn
    rw [h3]
    omega
  unfold prepR
  rw [h.acc, hu, decide_eq_false (by omega)]
  rfl
theorem att_eqs {s : Agr} (h : AW s) (hn : attRank s ≠ 0) : (prepR s.acc (attRank s)).1 = ⟨attRank s, s.acc.rank, s.acc.cut⟩ ∧ (prepR s.acc (attRank s)).2.1 = ⟨0, s.acc.rank, s.acc.cut⟩ ∧ s.acc.pro ≤ attRank s := by
  obtain ⟨_, hle, e1, e2⟩ := prep_ok h.acc (att_prep h hn)
  exact ⟨e1, e2, hle⟩
theorem step_no {s : Agr} (h6 : decide (0 < (s.prop.length : Int)) = false) : stepA s = s := by
  unfold stepA
  rw [if_neg (by rw [h6]; simp)]
theorem step_wait {s : Agr} (h6 : decide (0 < (s.prop.length : Int)) = true) (h7 : (dueB s && !decide (attRank s = 0)) = false) : stepA s = { s with wait := waitA s } := by
  unfold stepA
  rw [if_pos h6]
  cases hd : dueB s
  · rw [if_neg (by simp)]
  · rw [if_pos rfl]
    rw [hd, Bool.true_and, Bool.not_eq_false'] at h7
    have e : attRank { s with wait := waitA s } = attRank s := rfl
    unfold attA
    rw [e, h7, cond_true]
theorem step_act {s : Agr} (h : AW s) (h6 : decide (0 < (s.prop.length : Int)) = true) (h7 : (dueB s && !decide (attRank s = 0)) = true) : stepA s = advA (attS s) := by
  rw [Bool.and_eq_true, Bool.not_eq_true'] at h7
  unfold stepA
  rw [if_pos h6, if_pos h7.1]
  have e : attRank { s with wait := waitA s } = attRank s := rfl
  have hn := of_decide_eq_false h7.2
  unfold attA
  obtain ⟨e1, e2, _⟩ := att_eqs h hn
  simp only [e, h7.2, cond_false]
  rw [att_prep h hn, e1, e2]
  rfl
theorem aw_attS {s : Agr} (h : AW s) (h6 : decide (0 < (s.prop.length : Int)) = true) (hn : attRank s ≠ 0) : AW (attS s) :=
  aw_att h (len1.1 h6) (att_own h hn).1 (att_own h hn).2 (att_eqs h hn).2.2
theorem rsd_eq (T : Agr) : rsdA T = (bif decide (0 ≤ ofBal T.box T.self) then [pktOf T 0 1 0 0 (T.box.getD (ofBal T.box T.self).toNat bal0).cut] else []) ++ (bif decide (T.phase = 1) then [pktOf T 0 2 T.rank 0 []] else bif decide (T.phase = 2) then [pktOf T 0 4 T.rank 0 T.cho] else []) ++ (bif decide (0 ≤ ofB T.accs T.self) && !decide (T.phase = 2) then [pktOf T 0 5 (T.accs.getD (ofB T.accs T.self).toNat rpt0).rank 0 (T.accs.getD (ofB T.accs T.self).toNat rpt0).cut] else []) := by
  unfold rsdA sndV sndP sndA cutOf
  cases decide (0 ≤ ofBal T.box T.self) <;> rfl
theorem fin_000 {T : Agr} (hAT : AW T) (a0 : decide (0 ≤ ofBal T.box T.self) = false) (a1 : decide (T.phase = 1) = false) (a2 : decide (T.phase = 2) = false) (a3 : decide (0 ≤ ofB T.accs T.self) = false) : Ret Tryz.prog 29 [.agg (agrE T), .nl] (.tup [.agg (agrE (endA T (rsdA T)).1), .lst 7 ((endA T (rsdA T)).2.map pktE) false]) := by
  have e : rsdA T = [] := by
    rw [rsd_eq]
    simp only [a0, a1, a2, a3, cond_true, cond_false, Bool.and_true, Bool.and_false, Bool.false_and, Bool.true_and, Bool.not_true, Bool.not_false, List.nil_append, List.append_nil, List.cons_append]
  rw [e]
  exact c_ref10_finish_nil T hAT
theorem fin_001 {T : Agr} (hAT : AW T) (a0 : decide (0 ≤ ofBal T.box T.self) = false) (a1 : decide (T.phase = 1) = false) (a2 : decide (T.phase = 2) = false) (a3 : decide (0 ≤ ofB T.accs T.self) = true) : RetM Tryz.prog 29 [.row 48 7 ([pktOf T 0 5 (T.accs.getD (ofB T.accs T.self).toNat rpt0).rank 0 (T.accs.getD (ofB T.accs T.self).toNat rpt0).cut].map pktE)] [.agg (agrE T), .own 0] [false] [.dead] (.tup [.agg (agrE (endA T (rsdA T)).1), .lst 7 ((endA T (rsdA T)).2.map pktE) false]) := by
  have e : rsdA T = [pktOf T 0 5 (T.accs.getD (ofB T.accs T.self).toNat rpt0).rank 0 (T.accs.getD (ofB T.accs T.self).toNat rpt0).cut] := by
    rw [rsd_eq]
    simp only [a0, a1, a2, a3, cond_true, cond_false, Bool.and_true, Bool.and_false, Bool.false_and, Bool.true_and, Bool.not_true, Bool.not_false, List.nil_append, List.append_nil, List.cons_append]
  rw [e]
  exact m_ref10_finish_own T hAT _ (by simp)
theorem fin_010 {T : Agr} (hAT : AW T) (a0 : decide (0 ≤ ofBal T.box T.self) = false) (a1 : decide (T.phase = 1) = true) (a2 : decide (T.phase = 2) = false) (a3 : decide (0 ≤ ofB T.accs T.self) = false) : RetM Tryz.prog 29 [.row 48 7 ([pktOf T 0 2 T.rank 0 []].map pktE)] [.agg (agrE T), .own 0] [false] [.dead] (.tup [.agg (agrE (endA T (rsdA T)).1), .lst 7 ((endA T (rsdA T)).2.map pktE) false]) := by
  have e : rsdA T = [pktOf T 0 2 T.rank 0 []] := by
    rw [rsd_eq]
    simp only [a0, a1, a2, a3, cond_true, cond_false, Bool.and_true, Bool.and_false, Bool.false_and, Bool.true_and, Bool.not_true, Bool.not_false, List.nil_append, List.append_nil, List.cons_append]
  rw [e]
  exact m_ref10_finish_own T hAT _ (by simp)
theorem fin_011 {T : Agr} (hAT : AW T) (a0 : decide (0 ≤ ofBal T.box T.self) = false) (a1 : decide (T.phase = 1) = true) (a2 : decide (T.phase = 2) = false) (a3 : decide (0 ≤ ofB T.accs T.self) = true) : RetM Tryz.prog 29 [.row 48 7 ([pktOf T 0 2 T.rank 0 [], pktOf T 0 5 (T.accs.getD (ofB T.accs T.self).toNat rpt0).rank 0 (T.accs.getD (ofB T.accs T.self).toNat rpt0).cut].map pktE)] [.agg (agrE T), .own 0] [false] [.dead] (.tup [.agg (agrE (endA T (rsdA T)).1), .lst 7 ((endA T (rsdA T)).2.map pktE) false]) := by
  have e : rsdA T = [pktOf T 0 2 T.rank 0 [], pktOf T 0 5 (T.accs.getD (ofB T.accs T.self).toNat rpt0).rank 0 (T.accs.getD (ofB T.accs T.self).toNat rpt0).cut] := by
    rw [rsd_eq]
    simp only [a0, a1, a2, a3, cond_true, cond_false, Bool.and_true, Bool.and_false, Bool.false_and, Bool.true_and, Bool.not_true, Bool.not_false, List.nil_append, List.append_nil, List.cons_append]
  rw [e]
  exact m_ref10_finish_own T hAT _ (by simp)
theorem fin_020 {T : Agr} (hAT : AW T) (a0 : decide (0 ≤ ofBal T.box T.self) = false) (a1 : decide (T.phase = 1) = false) (a2 : decide (T.phase = 2) = true) : RetM Tryz.prog 29 [.row 48 7 ([pktOf T 0 4 T.rank 0 T.cho].map pktE)] [.agg (agrE T), .own 0] [false] [.dead] (.tup [.agg (agrE (endA T (rsdA T)).1), .lst 7 ((endA T (rsdA T)).2.map pktE) false]) := by
  have e : rsdA T = [pktOf T 0 4 T.rank 0 T.cho] := by
    rw [rsd_eq]
    simp only [a0, a1, a2, cond_true, cond_false, Bool.and_true, Bool.and_false, Bool.false_and, Bool.true_and, Bool.not_true, Bool.not_false, List.nil_append, List.append_nil, List.cons_append]
  rw [e]
  exact m_ref10_finish_own T hAT _ (by simp)
theorem fin_100 {T : Agr} (hAT : AW T) (a0 : decide (0 ≤ ofBal T.box T.self) = true) (a1 : decide (T.phase = 1) = false) (a2 : decide (T.phase = 2) = false) (a3 : decide (0 ≤ ofB T.accs T.self) = false) : RetM Tryz.prog 29 [.row 48 7 ([pktOf T 0 1 0 0 (T.box.getD (ofBal T.box T.self).toNat bal0).cut].map pktE)] [.agg (agrE T), .own 0] [false] [.dead] (.tup [.agg (agrE (endA T (rsdA T)).1), .lst 7 ((endA T (rsdA T)).2.map pktE) false]) := by
  have e : rsdA T = [pktOf T 0 1 0 0 (T.box.getD (ofBal T.box T.self).toNat bal0).cut] := by
    rw [rsd_eq]
    simp only [a0, a1, a2, a3, cond_true, cond_false, Bool.and_true, Bool.and_false, Bool.false_and, Bool.true_and, Bool.not_true, Bool.not_false, List.nil_append, List.append_nil, List.cons_append]
  rw [e]
  exact m_ref10_finish_own T hAT _ (by simp)
theorem fin_101 {T : Agr} (hAT : AW T) (a0 : decide (0 ≤ ofBal T.box T.self) = true) (a1 : decide (T.phase = 1) = false) (a2 : decide (T.phase = 2) = false) (a3 : decide (0 ≤ ofB T.accs T.self) = true) : RetM Tryz.prog 29 [.row 48 7 ([pktOf T 0 1 0 0 (T.box.getD (ofBal T.box T.self).toNat bal0).cut, pktOf T 0 5 (T.accs.getD (ofB T.accs T.self).toNat rpt0).rank 0 (T.accs.getD (ofB T.accs T.self).toNat rpt0).cut].map pktE)] [.agg (agrE T), .own 0] [false] [.dead] (.tup [.agg (agrE (endA T (rsdA T)).1), .lst 7 ((endA T (rsdA T)).2.map pktE) false]) := by
  have e : rsdA T = [pktOf T 0 1 0 0 (T.box.getD (ofBal T.box T.self).toNat bal0).cut, pktOf T 0 5 (T.accs.getD (ofB T.accs T.self).toNat rpt0).rank 0 (T.accs.getD (ofB T.accs T.self).toNat rpt0).cut] := by
    rw [rsd_eq]
    simp only [a0, a1, a2, a3, cond_true, cond_false, Bool.and_true, Bool.and_false, Bool.false_and, Bool.true_and, Bool.not_true, Bool.not_false, List.nil_append, List.append_nil, List.cons_append]
  rw [e]
  exact m_ref10_finish_own T hAT _ (by simp)
theorem fin_110 {T : Agr} (hAT : AW T) (a0 : decide (0 ≤ ofBal T.box T.self) = true) (a1 : decide (T.phase = 1) = true) (a2 : decide (T.phase = 2) = false) (a3 : decide (0 ≤ ofB T.accs T.self) = false) : RetM Tryz.prog 29 [.row 48 7 ([pktOf T 0 1 0 0 (T.box.getD (ofBal T.box T.self).toNat bal0).cut, pktOf T 0 2 T.rank 0 []].map pktE)] [.agg (agrE T), .own 0] [false] [.dead] (.tup [.agg (agrE (endA T (rsdA T)).1), .lst 7 ((endA T (rsdA T)).2.map pktE) false]) := by
  have e : rsdA T = [pktOf T 0 1 0 0 (T.box.getD (ofBal T.box T.self).toNat bal0).cut, pktOf T 0 2 T.rank 0 []] := by
    rw [rsd_eq]
    simp only [a0, a1, a2, a3, cond_true, cond_false, Bool.and_true, Bool.and_false, Bool.false_and, Bool.true_and, Bool.not_true, Bool.not_false, List.nil_append, List.append_nil, List.cons_append]
  rw [e]
  exact m_ref10_finish_own T hAT _ (by simp)
theorem fin_111 {T : Agr} (hAT : AW T) (a0 : decide (0 ≤ ofBal T.box T.self) = true) (a1 : decide (T.phase = 1) = true) (a2 : decide (T.phase = 2) = false) (a3 : decide (0 ≤ ofB T.accs T.self) = true) : RetM Tryz.prog 29 [.row 48 7 ([pktOf T 0 1 0 0 (T.box.getD (ofBal T.box T.self).toNat bal0).cut, pktOf T 0 2 T.rank 0 [], pktOf T 0 5 (T.accs.getD (ofB T.accs T.self).toNat rpt0).rank 0 (T.accs.getD (ofB T.accs T.self).toNat rpt0).cut].map pktE)] [.agg (agrE T), .own 0] [false] [.dead] (.tup [.agg (agrE (endA T (rsdA T)).1), .lst 7 ((endA T (rsdA T)).2.map pktE) false]) := by
  have e : rsdA T = [pktOf T 0 1 0 0 (T.box.getD (ofBal T.box T.self).toNat bal0).cut, pktOf T 0 2 T.rank 0 [], pktOf T 0 5 (T.accs.getD (ofB T.accs T.self).toNat rpt0).rank 0 (T.accs.getD (ofB T.accs T.self).toNat rpt0).cut] := by
    rw [rsd_eq]
    simp only [a0, a1, a2, a3, cond_true, cond_false, Bool.and_true, Bool.and_false, Bool.false_and, Bool.true_and, Bool.not_true, Bool.not_false, List.nil_append, List.append_nil, List.cons_append]
  rw [e]
  exact m_ref10_finish_own T hAT _ (by simp)
theorem fin_120 {T : Agr} (hAT : AW T) (a0 : decide (0 ≤ ofBal T.box T.self) = true) (a1 : decide (T.phase = 1) = false) (a2 : decide (T.phase = 2) = true) : RetM Tryz.prog 29 [.row 48 7 ([pktOf T 0 1 0 0 (T.box.getD (ofBal T.box T.self).toNat bal0).cut, pktOf T 0 4 T.rank 0 T.cho].map pktE)] [.agg (agrE T), .own 0] [false] [.dead] (.tup [.agg (agrE (endA T (rsdA T)).1), .lst 7 ((endA T (rsdA T)).2.map pktE) false]) := by
  have e : rsdA T = [pktOf T 0 1 0 0 (T.box.getD (ofBal T.box T.self).toNat bal0).cut, pktOf T 0 4 T.rank 0 T.cho] := by
    rw [rsd_eq]
    simp only [a0, a1, a2, cond_true, cond_false, Bool.and_true, Bool.and_false, Bool.false_and, Bool.true_and, Bool.not_true, Bool.not_false, List.nil_append, List.append_nil, List.cons_append]
  rw [e]
  exact m_ref10_finish_own T hAT _ (by simp)
end Go.Proofs.YtmbniilpgbjcfaaGreat
