/- A data-level logic for the model: what a body does to data; its soundness (part LiftQ). No conditions. -/
import Derived.Test.YtmfgjjnmfahcjaaLiftO
import Derived.Deep.LoopGhost
import Derived.Scope
set_option linter.unusedSimpArgs false
set_option linter.unusedVariables false
namespace Go.Lift
open Go

/-! # Code, bodies, contracts -/
section
variable {P : Program} {tt : TT} {A0 : Nat → Prop} {w0 : Home} {n : Nat} {os : Objs} {s : DS} {a : Act} {w : World} {A : Nat → Prop}

/-- the frame has room for every slot that the code writes -/
def codeFits (n : Nat) : Code → Bool
  | .region _ ops _ => ops.toList.all (dstOk n)
  | .seq a b => codeFits n a && codeFits n b
  | .cond _ a b => codeFits n a && codeFits n b
  | .block _ c => codeFits n c
  | .loop c => codeFits n c
  | .scope c => codeFits n c
  | _ => true
def NxE (A0 : Nat → Prop) (w0 : Home) (n : Nat) (K : Exit → DS → Prop) (e : Exit) (a : Act) (w : World) : Prop := Nx A0 w0 n (K e) a w

theorem dcode_ok (hm : P.follows .mixedOrders = true) (hT : tabOk P tt = true) (h0 : (tinfo tt 0).size = 0) : ∀ (c : Code) {K : Exit → DS → Prop} {E : Exit → Act → World → Prop} {os : Objs} {s : DS} {a : Act} {w : World},
    codeFits n c = true → (∀ e a w, NxE A0 w0 n K e a w → E e a w) → Rep A0 w0 n os s a w → dcode tt P c K s → c.wp P E a w := by
  intro c
  induction c with
  | skip => exact fun _ hE h hK => wp_skip (hE _ _ _ ⟨_, _, h, hK⟩)
  | region id ops draw =>
    intro K E os s a w hf hE h hK
    cases draw with
    | false => exact wp_region_list (dops_ok hT h0 (K := fun s => K .normal s) (fun a w hN => hE _ _ _ hN) _ hf h hK)
    | true => exact drawK_ok hm hT h0 (K := fun s => K .normal s) (fun a w hN => hE _ _ _ hN) hf h hK
  | seq x y ihx ihy =>
    intro K E os s a w hf hE h hK
    simp only [codeFits, Bool.and_eq_true] at hf
    refine wp_seq (ihx hf.1 (fun e a w hN => ?_) h hK)
    obtain ⟨os, s, h, hK⟩ := hN
    cases e with
    | normal => exact ihy hf.2 hE h hK
    | _ => exact hE _ _ _ ⟨os, s, h, hK⟩
  | cond c x y ihx ihy =>
    intro K E os s a w hf hE h hK
    simp only [codeFits, Bool.and_eq_true] at hf
    have hc := h.ev c
    have hK : (match ev s c with
      | .v (.bool t) => dcond t (dcode tt P x K s) (dcode tt P y K s)
      | _ => False) := hK
    split at hK
    · rename_i t e
      rw [e] at hc
      refine wp_cond_split hc.v_inv.1 (fun ht => ?_) (fun ht => ?_)
      · subst ht; exact ihx hf.1 hE h hK
      · subst ht; exact ihy hf.2 hE h hK
    · exact hK.elim
  | block id c ih =>
    intro K E os s a w hf hE h hK
    refine wp_block (ih hf (fun e a w hN => ?_) h hK)
    obtain ⟨os, s, h, hK⟩ := hN
    cases e with
    | exit j =>
      simp only [Exit.inBlock]
      have hK : (match Nat.beq j id with
        | true => K .normal s
        | false => K (.exit j) s) := hK
      split at hK
      · rename_i hb
        rw [if_pos (Nat.eq_of_beq_eq_true hb)]
        exact hE _ _ _ ⟨os, s, h, hK⟩
      · rename_i hb
        rw [if_neg (fun e => by subst e; simp at hb)]
        exact hE _ _ _ ⟨os, s, h, hK⟩
    | _ => exact hE _ _ _ ⟨os, s, h, hK⟩
  | loop c ih =>
    intro K E os s a w hf hE h hK
    obtain ⟨S, enc, I, μ, ads, ⟨x0, hI0, had⟩, hround⟩ := hK
    obtain ⟨os1, s1, h1, hle⟩ := adopt_ok ads h had
    obtain ⟨os2, h2⟩ := h1.le hle
    refine wp_loop_ghost (fun m a w => ∃ x, I x ∧ μ x = m ∧ ∃ os, Rep A0 w0 n os (enc x) a w) (μ x0) ⟨x0, hI0, rfl, os2, h2⟩ ?_
    rintro m a w ⟨x, hx, rfl, os, h⟩
    refine ih hf (fun e a w hN => ?_) h (hround x hx)
    obtain ⟨os, s, h, hK⟩ := hN
    cases e with
    | normal =>
      obtain ⟨x', hx', hlt, hle⟩ := hK
      obtain ⟨os', h'⟩ := h.le hle
      exact ⟨μ x', hlt, x', hx', rfl, os', h'⟩
    | _ => exact hE _ _ _ ⟨os, s, h, hK⟩
  | exit id => exact fun _ hE h hK => wp_exit (hE _ _ _ ⟨_, _, h, hK⟩)
  | ret => exact fun _ hE h hK => wp_ret (hE _ _ _ ⟨_, _, h, hK⟩)
  | label l => exact fun _ hE h hK => wp_label (hE _ _ _ ⟨_, _, h, hK⟩)
  | scope c ih =>
    intro K E os s a w hf hE h hK
    refine wp_scope_straight (ih hf (fun e a w hN => ?_) h hK)
    obtain ⟨os, s, h, hK⟩ := hN
    cases e with
    | goto l => exact hK.elim
    | _ => exact hE _ _ _ ⟨os, s, h, hK⟩
  | _ => intro K E os s a w hf hE h hK; exact hK.elim

/-! ## what is handed back -/
theorem lend_imm {x : Value} {d : DV} {Q : DV → Prop} (h : Rep A0 w0 n os s a w) (hr : RepV (avoid A0 os) os w x d) (hK : lend s.loc d Q) : ∃ d', Q d' ∧ Imm A0 w x d' := by
  have hown : ∀ (e : DV) j, e ∈ owns [d] → hIx e = some j → j ∈ ownIx (owns [d]) := fun e j hd hj => own_ix hd hj
  obtain ⟨d', hQ, hi⟩ := lend_ok h hr hown hK
  exact ⟨d', hQ, hi.keep (Keeps.less (fun b hb => .inl hb))⟩
theorem resK_ok (hT : tabOk P tt = true) (h : Rep A0 w0 n os s a w) : ∀ {rs : List ResultVar} {Q : List DV → Prop}, resK tt s rs Q → ∃ vs ds, Q ds ∧ vs.length = rs.length ∧ vs.length = ds.length ∧ (∀ (i : Nat) v d, vs[i]? = some v → ds[i]? = some d → Imm A0 w v d) ∧
    (List.mapM (m := Sem) (fun r : ResultVar => match r with
      | .tmp t => pure (a.tmps.getD t undef)
      | .cell p t => do loadVar t (← asAddr (a.tmps.getD p undef))) rs).run P w = .ok vs w
  | [], Q, hK => ⟨[], [], hK, rfl, rfl, fun i v d hv _ => by simp at hv, by simp⟩
  | .tmp t :: r, Q, hK => by
    have hK := frc_iff.1 hK
    obtain ⟨d, hK, hi⟩ := lend_imm h (h.env t) hK
    obtain ⟨vs, ds, hQ, h1, h2, h3, h4⟩ := resK_ok hT h hK
    refine ⟨a.tmps.getD t undef :: vs, d :: ds, hQ, by simp [h1], by simp [h2], fun i v d' hv hd => ?_, ?_⟩
    · cases i with
      | zero =>
        simp only [List.getElem?_cons_zero, Option.some.injEq] at hv hd
        subst hv hd; exact hi
      | succ i => exact h3 i v d' (by simpa using hv) (by simpa using hd)
    · rw [List.mapM_cons]
      simp only [Sem.run_bind, Sem.run_pure, Result.andThen_ok, h4]
  | .cell p ty :: r, Q, hK => by
    unfold resK at hK
    have hp := h.env p
    split at hK
    · rename_i i off e
      rw [e] at hp
      obtain ⟨g, t', cs', hi, hv⟩ := hp.lp_inv
      split at hK
      · rename_i t2 cs hl
        rw [h.loc] at hl
        obtain ⟨x', hi'⟩ := lget_os hl (by simp)
        rw [hi] at hi'
        cases hi'
        split at hK
        · exact hK.elim
        · rename_i hs
          obtain ⟨_, _, _, _, _, _, hcell⟩ := obj_cells h.obj hi
          obtain ⟨_, hK⟩ := dropK_elim hK
          obtain ⟨d, y, hK, hy1, hy2⟩ := load_take (P := P) hT hs (ad := ⟨g, off, none⟩) (fun j d hd => by rw [List.getElem?_drop] at hd; rw [Addr.add_mk]; exact hcell _ d hd) hK
          obtain ⟨d, hK, him⟩ := lend_imm h hy2 hK
          obtain ⟨vs, ds, hQ, h1, h2, h3, h4⟩ := resK_ok hT h hK
          refine ⟨y :: vs, d :: ds, hQ, by simp [h1], by simp [h2], fun i v d' hv hd => ?_, ?_⟩
          · cases i with
            | zero =>
        simp only [List.getElem?_cons_zero, Option.some.injEq] at hv hd
        subst hv hd; exact him
            | succ i => exact h3 i v d' (by simpa using hv) (by simpa using hd)
          · rw [List.mapM_cons]
            have e1 : (asAddr (a.tmps.getD p undef)).run P w = .ok ⟨g, off, none⟩ w := by rw [hv]; rfl
            simp only [Sem.run_bind, Sem.run_pure, Result.andThen_ok, e1, hy1, h4]
      · exact hK.elim
    · exact hK.elim
theorem dpost_ok (hT : tabOk P tt = true) {fn : Func} {d : DV} (h : Rep A0 w0 n os s a w) (hK : dpost tt fn.results.toList d s) : ∃ v, (results fn a.tmps).run P w = .ok v w ∧ Imm A0 w v d := by
  obtain ⟨vs, ds, hQ, h1, h2, h3, h4⟩ := resK_ok hT h hK
  have hrun : (results fn a.tmps).run P w = .ok (if h : vs.toArray.size = 1 then vs.toArray[0] else .tuple vs.toArray) w := by
    unfold results
    rw [Array.mapM_eq_mapM_toList]
    simp only [Sem.run_bind, Sem.run_map, Result.andThen_ok, Sem.run_pure]
    exact congrArg (fun r : Result (List Value) => (r.andThen fun a w' => Result.ok a.toArray w').andThen fun a w' => Result.ok (if h : a.size = 1 then a[0] else .tuple a) w') h4
  refine ⟨_, hrun, ?_⟩
  have hQ : (match ds with
    | [x] => dle x d
    | l => dle (.tup l) d) := hQ
  have many : ¬ vs.length = 1 → dle (.tup ds) d → Imm A0 w (if h : vs.toArray.size = 1 then vs.toArray[0] else .tuple vs.toArray) d := by
    intro hne hQ
    simp only [List.size_toArray, hne, dite_false]
    exact (Imm.tup h2 h3).le hQ
  rcases ds with _ | ⟨x, _ | ⟨y, r⟩⟩
  · exact many (by simp at h2; simp [h2]) hQ
  · obtain ⟨v, rfl⟩ : ∃ v, vs = [v] := List.length_eq_one_iff.1 (by simpa using h2)
    simpa using (h3 0 v x rfl rfl).le hQ
  · exact many (by simp at h2; omega) hQ

/-! ## contracts -/
theorem look_enum : ∀ (l : List DV) (b t : Nat), look (enum b l) t = if b ≤ t then (l[t - b]?).getD .junk else .junk
  | [], b, t => by simp [enum, look]
  | d :: r, b, t => by
    simp only [enum, look]
    split
    · rename_i hb
      have := Nat.eq_of_beq_eq_true hb
      subst this
      simp
    · rename_i hb
      have hne : b ≠ t := fun e => by subst e; simp at hb
      rw [look_enum r (b + 1) t]
      by_cases hle : b ≤ t
      · rw [if_pos hle, if_pos (by omega)]
        obtain ⟨m, rfl⟩ : ∃ m, t = b + 1 + m := ⟨t - b - 1, by omega⟩
        rw [show b + 1 + m - b = m + 1 by omega, show b + 1 + m - (b + 1) = m by omega]
        simp
      · rw [if_neg hle, if_neg (by omega)]
theorem immAll_len : ∀ {vs : List Value} {ds : List DV}, ImmAll A w vs ds → vs.length = ds.length
  | [], [], _ => rfl
  | [], _ :: _, h => h.elim
  | _ :: _, [], h => h.elim
  | _ :: _, _ :: _, h => by simp [immAll_len h.2]
theorem immAll_at : ∀ {vs : List Value} {ds : List DV} {i : Nat} {v : Value} {d : DV}, ImmAll A w vs ds → vs[i]? = some v → ds[i]? = some d → Imm A w v d
  | [], _, i, v, d, _, hv, _ => by simp at hv
  | _ :: _, [], i, v, d, h, _, hd => by simp at hd
  | x :: vs, y :: ds, 0, v, d, h, hv, hd => by simp at hv hd; subst hv; subst hd; exact h.1
  | x :: vs, y :: ds, i + 1, v, d, h, hv, hd => immAll_at (i := i) h.2 (by simpa using hv) (by simpa using hd)
theorem grownBy_of {w w' : World} (h : Grown (fun _ => False) w w') : w.grownBy w' none := ⟨h.os, h.tape, h.output, h.size, fun k hk _ => h.block k hk (fun h => h)⟩
theorem ret_of_body (hm : P.follows .mixedOrders = true) (hT : tabOk P tt = true) (h0 : (tinfo tt 0).size = 0) {f : FuncId} {fn : Func} {c : Code} {args : List DV} {d : DV} (hf : P.funcs[f]? = some fn) (hname : (fn.name == "runtime.NumGoroutine") = false) (hb : fn.body = some c)
    (hfit : codeFits fn.ntmps c = true) (hn : Nat.ble args.length fn.ntmps = true) (h : dbody tt P c fn.results.toList args d) : Ret P f args d := by
  have hn := Nat.le_of_ble_eq_true hn
  refine ⟨fun vs w => ?_, fun A w vals hA hvals => ?_⟩
  · simp only [callFunc, Sem.run_bind, run_program, Result.andThen_ok, hf, hname, hb, Option.isNone_some]
    rfl
  · have hlen := immAll_len hvals
    refine calls_of_wp hf hb (dcode_ok (A0 := A) (w0 := ⟨w, fun _ => False, []⟩) (n := fn.ntmps) (os := []) (s := ⟨enum 0 args, []⟩) hm hT h0 c hfit (fun e a w' hN => ?_) ?_ h)
    · obtain ⟨os, s, hr, hK⟩ := hN
      cases e with
      | normal =>
        obtain ⟨v, hv, hi⟩ := dpost_ok hT hr hK
        exact ⟨hr.defers, v, hv, v, rfl, hi, grownBy_of hr.gr⟩
      | ret =>
        obtain ⟨v, hv, hi⟩ := dpost_ok hT hr hK
        exact ⟨hr.defers, v, hv, v, rfl, hi, grownBy_of hr.gr⟩
      | _ => exact hK.elim
    · refine ⟨by simp; omega, rfl, ⟨rfl, rfl, rfl, Nat.le_refl _, fun _ _ _ => rfl⟩, fun b hb hm => hm.elim (fun h => by have := hA b hb; have h : w.heap.size ≤ b := h; omega) (fun h => h), rfl, fun t => ?_, fun i x o hi => by simp at hi, fun i j x o y o' b hi => by simp at hi⟩
      rw [look_enum, if_pos (Nat.zero_le _), Nat.sub_zero]
      cases hd : args[t]? with
      | none => exact .imm .junk
      | some d =>
        have hlt := (List.getElem?_eq_some_iff.1 hd).1
        have hv := List.getElem?_eq_getElem (l := vals) (i := t) (by omega)
        have hi := immAll_at hvals hv hd
        have : (vals.toArray ++ Array.replicate (fn.ntmps - vals.toArray.size) undef).getD t undef = vals[t]'(by omega) := by
          rw [Array.getD_eq_getD_getElem?, Array.getElem?_append_left (by simp; omega)]
          simp [hv]
        simp only [Option.getD_some]
        rw [this]
        refine .imm (hi.keep (Keeps.less (fun b hb => ?_)))
        rcases hb with hb | ⟨i, x, o, hi, _⟩
        · exact hb
        · simp at hi
end
end Go.Lift
