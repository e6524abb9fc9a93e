/- A data-level logic for the model: what a body does to data; its soundness (part LiftI). No conditions. -/
import Derived.Test.YtmfgjjnmfahcjaaLiftH4
set_option linter.unusedSimpArgs false
set_option linter.unusedVariables false
namespace Go.Lift
open Go

/-! # Calls, and any one operation -/
section
variable {P : Program} {tt : TT} {A0 : Nat → Prop} {w0 : Home} {n : Nat} {os : Objs} {s : DS} {a : Act} {w : World} {o : Oper} {K : DS → Prop} {A : Nat → Prop} {B : Nat}

theorem immAll_get : ∀ {vs : List Value} {ds : List DV}, vs.length = ds.length → (∀ (i : Nat) v d, vs[i]? = some v → ds[i]? = some d → Imm A w v d) → ImmAll A w vs ds
  | [], [], _, _ => trivial
  | [], _ :: _, h, _ => by simp at h
  | _ :: _, [], h, _ => by simp at h
  | v :: vs, d :: ds, h, hp => ⟨hp 0 v d rfl rfl, immAll_get (by simpa using h) (fun i v d hv hd => hp (i + 1) v d (by simpa using hv) (by simpa using hd))⟩

/-- a call: what it hands back, and the state behind it -/
theorem dcall_ok {f : FuncId} {args : List DV} {vals : List Value} {K : DV → DS → Prop} (h : Rep A0 w0 n os s a w) (hl : vals.length = args.length) (hp : ∀ (i : Nat) v d, vals[i]? = some v → args[i]? = some d → RepV (avoid A0 os) os w v d) (hK : dcall P f args s K) :
    (∀ (vs : Array Value) (w : World), (callFunc f vs).run P w = .ok (.enter f vs) w) ∧ Calls P f vals.toArray w fun e w' => ∃ v r os' s', e = .returned v ∧ Rep A0 w0 n os' s' a w' ∧ RepV (avoid A0 os') os' w' v r ∧ K r s' := by
  obtain ⟨l, ⟨l', r, hle, hret, hK⟩, hall⟩ := lendA_ok (J := ownIx (owns args)) h vals args hl hp (fun d j hd hj => own_ix hd hj) hK
  refine ⟨hret.1, (hret.2 _ w vals (fun b hb => ?_) (hall.le hle)).mono fun e w' he => ?_⟩
  · rcases hb with hb | ⟨i, x, o', hi, hd, _, hbb⟩
    · exact h.a0_lt hb
    · exact ((h.obj i x o' hi).blk_ge hd hbb).2
  · obtain ⟨v, rfl, hi, hg⟩ := he
    cases hows : owns args with
    | nil =>
      rw [hows] at hK hi
      refine ⟨v, r, os, s, rfl, h.grown hg, .imm ?_, hK⟩
      refine hi.keep (Keeps.less (fun b hb => ?_))
      rcases hb with hb | ⟨i, x, o', hi, hd, hbb⟩
      · exact .inl hb
      · exact .inr ⟨i, x, o', hi, hd, by simp [ownIx], hbb⟩
    | cons d ds =>
      rw [hows] at hK hi
      simp only at hK
      split at hK
      · rename_i hs
        exact ⟨v, r, os, s, rfl, h.grown hg, .imm (scalar_imm hs hi), hK⟩
      · obtain ⟨os', s', hr, hk, hx, _⟩ := shutIn_ok _ h hK
        exact ⟨v, r, os', s', rfl, hr.grown hg, .imm (hi.keep (Keeps.less hx)), hk⟩

theorem call_exec {f : Operand} {k : FuncId} {caps : List Value} {args : Array Operand} {ats : Array TypeId} (ho : o.op = .call { callee := .value f, args := args, argTypes := ats }) (hf : a.eval f = .func (.func k) #[] caps.toArray)
    (hc : ∀ (vs : Array Value) (w : World), (callFunc k vs).run P w = .ok (.enter k vs) w) : (execOp a.eval o).run P w = .ok (.enter k (args.toList.map a.eval ++ caps).toArray) w := by
  have : (#[] ++ args.map a.eval ++ caps.toArray) = (args.toList.map a.eval ++ caps).toArray := by cases args; simp
  simp only [execOp, ho, resolve, hf, Deferred.ofValue, Sem.run_bind, Sem.run_pure, Result.andThen_ok, invoke, hc]
  rw [this]
theorem args_rep {vs : List Value} {l : List Operand} {ds caps : List DV} {ρ : Operand → DV} (hd : ds = l.map ρ) (hx : ∀ x ∈ l, RepV A os w (a.eval x) (ρ x)) (hl : vs.length = caps.length) (hp : ∀ (i : Nat) v d, vs[i]? = some v → caps[i]? = some d → RepV A os w v d) :
    (l.map a.eval ++ vs).length = (ds ++ caps).length ∧ ∀ (i : Nat) v d, (l.map a.eval ++ vs)[i]? = some v → (ds ++ caps)[i]? = some d → RepV A os w v d := by
  subst hd
  refine ⟨by simp [hl], fun i v d hv hd => ?_⟩
  by_cases hi : i < l.length
  · rw [List.getElem?_append_left (by simpa using hi), List.getElem?_map, List.getElem?_eq_getElem hi] at hv hd
    cases hv; cases hd
    exact hx _ (List.getElem_mem hi)
  · rw [List.getElem?_append_right (by simpa using hi)] at hv hd
    simp only [List.length_map] at hv hd
    exact hp _ v d hv hd

theorem fin_val {Q : Exit → Act → World → Prop} {d : DV} (h : Rep A0 w0 n os s a w) (hd : ∀ t, o.dst = some t → t < n) (hg : ∃ x, (execOp a.eval o).run P w = .ok (.value x) w ∧ RepV (avoid A0 os) os w x d) (hK : putK s o.dst d K) : o.wp P a w (Nx A0 w0 n K) Q := by
  obtain ⟨x, hrun, hr⟩ := hg
  exact wp_value hrun (Nx.put h hd hr hK)

theorem frc_cases {d : DV} {Q : DV → Prop} (h : frc d Q) : Q d := frc_iff.1 h

theorem dStoreRow_ok (hT : tabOk P tt = true) {t : TypeId} {x y : Operand} {Q : Exit → Act → World → Prop} (ho : o.op = .store t x y) (h : Rep A0 w0 n os s a w) (hd : ∀ t, o.dst = some t → t < n) (hs : (tinfo tt t).size ≠ 0) (hK : dStoreRow tt s o.dst t (ev s x) (ev s y) K) : o.wp P a w (Nx A0 w0 n K) Q := by
  unfold dStoreRow at hK
  have hx := h.ev x
  split at hK
  · rename_i i k off ex
    rw [ex] at hx
    split at hK
    · rename_i e sz es hpl hl
      rw [h.loc] at hl
      obtain ⟨x', hi⟩ := lget_os hl (by simp)
      obtain ⟨g, m, c, rfl, hxv⟩ := hx.rp_row hi
      obtain ⟨ed, hed, hK⟩ := hK
      split at hK
      · rename_i hb
        simp only [Bool.and_eq_true] at hb
        exact store_row_ok hT ho h hd hs hxv hi rfl hpl hed (Nat.eq_of_beq_eq_true hb.1) (Nat.le_of_ble_eq_true hb.2) hK
      · exact hK.elim
    · exact hK.elim
  · exact hK.elim
theorem dStore_ok (hT : tabOk P tt = true) {t : TypeId} {x y : Operand} {d : DV} {Q : Exit → Act → World → Prop} (ho : o.op = .store t x y) (h : Rep A0 w0 n os s a w) (hd : ∀ t, o.dst = some t → t < n) (e : ev s y = d) (h1 : ∀ b d', d ≠ .wh b d') (h2 : ∀ l, d ≠ .tup l) (h3 : d ≠ .junk) (hK : dStore tt s o.dst t x y d K) : o.wp P a w (Nx A0 w0 n K) Q := by
  unfold dStore at hK
  have hx := h.ev x
  split at hK
  · exact hK.elim
  · rename_i hs
    split at hK
    · rename_i i off ex
      rw [ex] at hx
      obtain ⟨g, t', cs', hi, hxv⟩ := hx.lp_inv
      split at hK
      · rename_i t2 cs hl
        rw [h.loc] at hl
        obtain ⟨x', hi'⟩ := lget_os hl (by simp)
        rw [hi] at hi'
        cases hi'
        split at hK
        · exact hK.elim
        · rename_i hb
          simp only [Bool.and_eq_true] at hb
          exact store_cells_ok hT ho h hd hs hxv hi e h1 h2 h3 (Nat.eq_of_beq_eq_true hb.1) (Nat.le_of_ble_eq_true hb.2) hK
      · exact hK.elim
    · rename_i i off ex
      rw [ex] at hx
      obtain ⟨g, t', cs', hi, hxv⟩ := hx.ap_inv
      split at hK
      · rename_i t2 cs hl
        rw [h.loc] at hl
        obtain ⟨x', hi'⟩ := lget_os hl (by simp)
        rw [hi] at hi'
        cases hi'
        split at hK
        · rename_i hb
          exact store_cells_ok hT ho h hd hs hxv hi e h1 h2 h3 (Nat.eq_of_beq_eq_true hb) hK.1 hK.2
        · exact hK.elim
      · exact hK.elim
    · obtain ⟨os', s', h', hK, _, _⟩ := shutIn_ok _ h hK
      exact dStoreRow_ok hT ho h' hd hs (frc_iff.1 hK)
    · exact hK.elim

theorem dop_ok (hT : tabOk P tt = true) (h0 : (tinfo tt 0).size = 0) {Q : Exit → Act → World → Prop} (h : Rep A0 w0 n os s a w) (hd : ∀ t, o.dst = some t → t < n) (hK : dop tt P o s K) : o.wp P a w (Nx A0 w0 n K) Q := by
  unfold dop at hK
  split at hK
  · rw [h.loc] at hK
    obtain ⟨c, d, hK, hg⟩ := dval_ok hT h0 h.obj (ρ := ev s) (a := a) (fun x _ => h.ev x) hK
    obtain ⟨hc, hK⟩ := needs_iff.1 hK
    exact fin_val h hd (hg hc) hK
  · split at hK
    · -- alloc
      rename_i t ho
      split at hK
      · exact hK.elim
      · rename_i hs
        exact alloc_ok hT ho h hd hs hK
    · -- box
      rename_i t x ho
      have hK := frc_cases hK
      split at hK
      · rename_i cs e
        exact box_ok ho h hd e (by simp) (by simp) (by simp) hK
      · exact hK.elim
      · exact hK.elim
      · exact hK.elim
      · rename_i d h1 h2 h3 h4
        have hdc : dcells (ev s x) = [ev s x] := by
          generalize ev s x = d at *
          cases d <;> first | rfl | exact absurd rfl (h1 _)
        refine box_ok ho h hd rfl (fun b d' e => h2 b d' e) (fun l e => h3 l e) (fun e => h4 e) ?_
        rw [hdc]
        exact hK
    · -- store
      rename_i t x y ho
      have hK := frc_cases hK
      split at hK
      · exact hK.elim
      · exact hK.elim
      · exact hK.elim
      · rename_i d h1 h2 h3
        exact dStore_ok hT ho h hd rfl (fun b d' e => h1 b d' e) (fun l e => h2 l e) (fun e => h3 e) hK
    · -- buildSlice
      rename_i t m parts ho
      split at hK
      · rename_i e hk
        split at hK
        · rename_i m1 hs hb
          have hle := Nat.le_of_ble_eq_true hb
          obtain ⟨os', s', h', hK⟩ := shutOps_ok _ h hK
          exact buildSlice_ok hT ho hk (by omega) hle h' hd hK
        · exact hK.elim
      · exact hK.elim
    · -- makeSlice
      rename_i t l c ho
      split at hK
      · rename_i e hk
        split at hK
        · rename_i m1 kl lv kc cv hs el ec
          obtain ⟨m, N, rfl, rfl, hmN, hb, hM, hK⟩ := hK
          have hl := h.ev l
          have hc := h.ev c
          rw [el] at hl
          rw [ec] at hc
          exact makeSlice_ok hT ho hk (by omega) h hd hl.v_inv.1 hc.v_inv.1 hmN hb hM hK
        · exact hK.elim
      · exact hK.elim
    · -- a cut of a row
      rename_i t x lo hi mx ho
      split at hK
      · rename_i j ex
        split at hK
        · rename_i e sz es hl
          rw [h.loc] at hl
          obtain ⟨x', hi'⟩ := lget_os hl (by simp)
          obtain ⟨h', _⟩ := h.shut hi'
          rw [h'.loc] at hK
          obtain ⟨c, d, hK, hg⟩ := dval_ok (o := o) hT h0 h'.obj (ρ := ev (s.shut j sz es)) (a := a) (fun x _ => h'.ev x) (by rw [ho]; exact hK)
          obtain ⟨hc, hK⟩ := needs_iff.1 hK
          exact fin_val h' hd (hg hc) hK
        · exact hK.elim
      · exact hK.elim
    · -- a row's bytes
      rename_i src dst x ho
      split at hK
      · rename_i j ex
        split at hK
        · rename_i e sz es hl
          rw [h.loc] at hl
          obtain ⟨x', hi'⟩ := lget_os hl (by simp)
          obtain ⟨h', _⟩ := h.shut hi'
          rw [h'.loc] at hK
          obtain ⟨c, d, hK, hg⟩ := dval_ok (o := o) hT h0 h'.obj (ρ := ev (s.shut j sz es)) (a := a) (fun x _ => h'.ev x) (by rw [ho]; exact hK)
          obtain ⟨hc, hK⟩ := needs_iff.1 hK
          exact fin_val h' hd (hg hc) hK
        · exact hK.elim
      · exact hK.elim
    · -- append
      rename_i args ats ho
      split at hK
      · rename_i x y t t' ha hat
        split at hK
        · rename_i e htt hk
          have htt := Nat.eq_of_beq_eq_true htt
          split at hK
          · exact hK.elim
          · rename_i hs
            exact append_ok hT ho ha hat htt hk hs h hd hK
        · exact hK.elim
      · exact hK.elim
    · -- copy
      rename_i args ats ho
      split at hK
      · rename_i x y t t' ha hat
        split at hK
        · rename_i e htt hk
          have htt := Nat.eq_of_beq_eq_true htt
          split at hK
          · exact hK.elim
          · rename_i hs
            exact copy_ok hT ho ha hat htt hk hs h hd hK
        · exact hK.elim
      · exact hK.elim
    · -- a call
      rename_i f args ats ho
      split at hK
      · rename_i k caps ef
        have hf := h.ev f
        rw [ef] at hf
        obtain ⟨vs, hv, hl, hp⟩ := hf.fn_inv
        have hK := evL_elim hK
        obtain ⟨h1, h2⟩ := args_rep (l := args.toList) rfl (fun x _ => h.ev x) hl hp
        have hboth : (∀ (vs : Array Value) (w : World), (callFunc k vs).run P w = .ok (.enter k vs) w) ∧ Calls P k (args.toList.map a.eval ++ vs).toArray w fun e w' => ∃ v r os' s', e = .returned v ∧ Rep A0 w0 n os' s' a w' ∧ RepV (avoid A0 os') os' w' v r ∧ putK s' o.dst r K := by
          rcases hK with hK | hK
          · exact dcall_ok h h1 h2 hK
          · exact dcallM_ok h h1 h2 hK
        obtain ⟨hc, hcall⟩ := hboth
        unfold Oper.wp
        rw [call_exec ho hv hc]
        refine hcall.mono fun e w' he => ?_
        obtain ⟨v, r, os', s', rfl, hr, hrv, hk⟩ := he
        exact Nx.put hr hd hrv hk
      · exact hK.elim
    · exact hK.elim
end
end Go.Lift
