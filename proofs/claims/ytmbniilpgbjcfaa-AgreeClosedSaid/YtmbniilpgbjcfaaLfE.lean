/- A data-level logic for the model: what a body does to data; its soundness (part LfE). No conditions. -/
import Derived.Test.YtmbniilpgbjcfaaLfD
set_option linter.unusedSimpArgs false
set_option linter.unusedVariables false
namespace Go.Lift
open Go

/-! # The body of a function that is handed objects -/
section
variable {P : Program} {tt : TT} {A0 : Nat → Prop} {w0 : Home} {n : Nat} {os : Objs} {s : DS} {a : Act} {w : World} {A : Nat → Prop}

theorem repAll_get : ∀ {vs : List Value} {ds : List DV}, RepAll A os w vs ds → vs.length = ds.length ∧ ∀ (i : Nat) v d, vs[i]? = some v → ds[i]? = some d → RepV A os w v d
  | [], [], _ => ⟨rfl, by simp⟩
  | [], _ :: _, h => h.elim
  | _ :: _, [], h => h.elim
  | v :: vs, d :: ds, h => by
    obtain ⟨h1, h2⟩ := repAll_get h.2
    refine ⟨by simp [h1], fun i v' d' hv hd => ?_⟩
    cases i with
    | zero => simp at hv hd; subst hv; subst hd; exact h.1
    | succ i => exact h2 i v' d' (by simpa using hv) (by simpa using hd)
theorem plainD {x : Value} {d : DV} (h : RepV A os w x d) (hp : plainAll (dcells d) = true) : Imm A w x d := by
  have hm := plainAll_mem hp
  by_cases hd : ∃ cs, d = .agg cs
  · obtain ⟨cs, rfl⟩ := hd
    obtain ⟨vs, rfl, hl, hone, hpp⟩ := h.agg_inv
    exact .agg hl hone (fun i v d hv hd => ((hpp i v d hv hd).plain (hm d (List.mem_of_getElem? hd))).2)
  · have : dcells d = [d] := by cases d <;> first | rfl | exact absurd ⟨_, rfl⟩ hd
    exact (h.plain (hm d (by rw [this]; simp))).2
theorem resP_ok (hT : tabOk P tt = true) (h : Rep A0 w0 n os s a w) : ∀ {rs : List ResultVar} {Q : List DV → Prop}, resP tt s rs Q → ∃ vs ds, Q ds ∧ vs.length = rs.length ∧ vs.length = ds.length ∧ (∀ (i : Nat) v d, vs[i]? = some v → ds[i]? = some d → (isOwn d = true ∨ Imm (avoid A0 os) w v d) ∧ RepV (avoid A0 os) os w v d) ∧
    (List.mapM (m := Sem) (fun r : ResultVar => match r with
      | .tmp t => pure (a.tmps.getD t undef)
      | .cell p t => do loadVar t (← asAddr (a.tmps.getD p undef))) rs).run P w = .ok vs w
  | [], Q, hK => ⟨[], [], hK, rfl, rfl, fun i v d hv _ => by simp at hv, by simp⟩
  | .tmp t :: r, Q, hK => by
    have hK := frc_iff.1 hK
    split at hK
    · rename_i hpl
      have hi : (isOwn (look s.env t) = true ∨ Imm (avoid A0 os) w (a.tmps.getD t undef) (look s.env t)) ∧ RepV (avoid A0 os) os w (a.tmps.getD t undef) (look s.env t) := by
        refine ⟨?_, h.env t⟩
        cases ho : isOwn (look s.env t)
        · rw [ho, Bool.false_or] at hpl
          exact .inr (plainD (h.env t) hpl)
        · exact .inl rfl
      obtain ⟨vs, ds, hQ, h1, h2, h3, h4⟩ := resP_ok hT h hK
      refine ⟨a.tmps.getD t undef :: vs, _ :: ds, hQ, by simp [h1], by simp [h2], fun i v d' hv hd => ?_, ?_⟩
      · cases i with
        | zero =>
          simp only [List.getElem?_cons_zero, Option.some.injEq] at hv hd
          subst hv hd; exact hi
        | succ i => exact h3 i v d' (by simpa using hv) (by simpa using hd)
      · rw [List.mapM_cons]
        simp only [Sem.run_bind, Sem.run_pure, Result.andThen_ok, h4]
    · exact hK.elim
  | .cell p ty :: r, Q, hK => by
    unfold resP at hK
    have hp := h.env p
    split at hK
    · rename_i i off e
      rw [e] at hp
      obtain ⟨g, t', cs', hi, hv⟩ := hp.lp_inv
      split at hK
      · rename_i t2 cs hl
        rw [h.loc] at hl
        obtain ⟨x', hi'⟩ := lget_os hl (by simp)
        rw [hi] at hi'
        cases hi'
        split at hK
        · exact hK.elim
        · rename_i hs
          obtain ⟨_, _, _, _, _, _, hcell⟩ := obj_cells h.obj hi
          obtain ⟨_, hK⟩ := dropK_elim hK
          obtain ⟨d, y, hK, hy1, hy2⟩ := load_take (P := P) hT hs (ad := ⟨g, off, none⟩) (fun j d hd => by rw [List.getElem?_drop] at hd; rw [Addr.add_mk]; exact hcell _ d hd) hK
          split at hK
          · rename_i hpl
            have him := plainD hy2 hpl
            obtain ⟨vs, ds, hQ, h1, h2, h3, h4⟩ := resP_ok hT h hK
            refine ⟨y :: vs, d :: ds, hQ, by simp [h1], by simp [h2], fun i v d' hv hd => ?_, ?_⟩
            · cases i with
              | zero =>
                simp only [List.getElem?_cons_zero, Option.some.injEq] at hv hd
                subst hv hd; exact ⟨.inr him, .imm him⟩
              | succ i => exact h3 i v d' (by simpa using hv) (by simpa using hd)
            · rw [List.mapM_cons]
              have e1 : (asAddr (a.tmps.getD p undef)).run P w = .ok ⟨g, off, none⟩ w := by rw [hv]; rfl
              simp only [Sem.run_bind, Sem.run_pure, Result.andThen_ok, e1, hy1, h4]
          · exact hK.elim
      · exact hK.elim
    · exact hK.elim
theorem resM_ok (hT : tabOk P tt = true) {fn : Func} {Q : DV → Prop} (h : Rep A0 w0 n os s a w) (hK : resM tt s fn.results.toList Q) : ∃ v d, Q d ∧ (results fn a.tmps).run P w = .ok v w ∧ RepV (avoid A0 os) os w v d := by
  have fin : ∀ {vs : List Value}, (List.mapM (m := Sem) (fun r : ResultVar => match r with
      | .tmp t => pure (a.tmps.getD t undef)
      | .cell p t => do loadVar t (← asAddr (a.tmps.getD p undef))) fn.results.toList).run P w = .ok vs w → (results fn a.tmps).run P w = .ok (if h : vs.toArray.size = 1 then vs.toArray[0] else .tuple vs.toArray) w := by
    intro vs h4
    unfold results
    rw [Array.mapM_eq_mapM_toList]
    simp only [Sem.run_bind, Sem.run_map, Result.andThen_ok, Sem.run_pure]
    exact congrArg (fun r : Result (List Value) => (r.andThen fun a w' => Result.ok a.toArray w').andThen fun a w' => Result.ok (if h : a.size = 1 then a[0] else .tuple a) w') h4
  have many : resP tt s fn.results.toList (fun l => Q (.tup l)) → fn.results.toList.length ≠ 1 → ∃ v d, Q d ∧ (results fn a.tmps).run P w = .ok v w ∧ RepV (avoid A0 os) os w v d := by
    intro hK hne
    obtain ⟨vs, ds, hQ, h1, h2, h3, h4⟩ := resP_ok hT h hK
    refine ⟨_, _, hQ, fin h4, ?_⟩
    have : ¬ (vs.toArray.size = 1) := by simp; omega
    rw [dif_neg this]
    exact .tup h2 (fun i v d hv hd => (h3 i v d hv hd).1) (fun i v d hv hd => (h3 i v d hv hd).2)
  unfold resM at hK
  split at hK
  · rename_i t e
    have hK := frc_iff.1 hK
    refine ⟨_, _, hK, fin (vs := [a.tmps.getD t undef]) (by rw [e]; simp), ?_⟩
    simpa using h.env t
  · rename_i p ty e
    have hp := h.env p
    split at hK
    · rename_i i off e2
      rw [e2] at hp
      obtain ⟨g, t', cs', hi, hv⟩ := hp.lp_inv
      split at hK
      · rename_i t2 cs hl
        rw [h.loc] at hl
        obtain ⟨x', hi'⟩ := lget_os hl (by simp)
        rw [hi] at hi'
        cases hi'
        split at hK
        · exact hK.elim
        · rename_i hs
          obtain ⟨_, _, _, _, _, _, hcell⟩ := obj_cells h.obj hi
          obtain ⟨_, hK⟩ := dropK_elim hK
          obtain ⟨d, y, hK, hy1, hy2⟩ := load_take (P := P) hT hs (ad := ⟨g, off, none⟩) (fun j d hd => by rw [List.getElem?_drop] at hd; rw [Addr.add_mk]; exact hcell _ d hd) hK
          refine ⟨y, d, hK, ?_, hy2⟩
          have := fin (vs := [y]) (by
            rw [e]
            have e1 : (asAddr (a.tmps.getD p undef)).run P w = .ok ⟨g, off, none⟩ w := by rw [hv]; rfl
            simp only [List.mapM_cons, List.mapM_nil, Sem.run_bind, Sem.run_pure, Result.andThen_ok, e1, hy1])
          simpa using this
      · exact hK.elim
    · exact hK.elim
  · rename_i h1 h2
    refine many hK (fun hl => ?_)
    cases hr : fn.results.toList with
    | nil => rw [hr] at hl; simp at hl
    | cons r rs =>
      cases rs with
      | nil => cases r with
        | tmp t => exact h1 t hr
        | cell p t => exact h2 p t hr
      | cons r2 rs => rw [hr] at hl; simp at hl

theorem hdls_len : ∀ (L : List LObj) (k : Nat), (hdls k L).length = L.length
  | [], k => rfl
  | o :: r, k => by rw [hdls, List.length_cons, hdls_len r]; rfl
theorem hdls_get : ∀ (L : List LObj) (b i : Nat) (d : DV), (hdls b L)[i]? = some d → ∃ o, L[i]? = some o ∧ d = hdl (b + i) o
  | [], b, i, d, h => by simp [hdls] at h
  | o :: r, b, 0, d, h => by simp [hdls] at h; exact ⟨o, rfl, by simpa using h.symm⟩
  | o :: r, b, i + 1, d, h => by
    rw [hdls] at h
    obtain ⟨o', h1, h2⟩ := hdls_get r (b + 1) i d (by simpa using h)
    exact ⟨o', by simpa using h1, by rw [h2, Nat.add_assoc, Nat.add_comm 1 i]⟩
theorem keptG_get : ∀ (ks : List Bool) (L' : List LObj) (b i : Nat) (o : LObj), ks[i]? = some true → L'[i]? = some o → (keptG b ks L')[i]? = some (hdl (b + i) o)
  | [], L', b, i, o, h, _ => by simp at h
  | k :: ks, [], b, i, o, _, h => by simp at h
  | k :: ks, o1 :: L', b, 0, o, h1, h2 => by
    simp at h1 h2
    subst h1; subst h2
    rfl
  | k :: ks, o1 :: L', b, i + 1, o, h1, h2 => by
    have := keptG_get ks L' (b + 1) i o (by simpa using h1) (by simpa using h2)
    cases k <;> · rw [keptG]; simpa [Nat.add_assoc, Nat.add_comm 1 i] using this
def hdr (p : Value × LObj) : Value :=
  match p.2 with
  | .row .. => p.1
  | .cells .. => p.1
  | _ => .nilFunc
theorem deadAt_get : ∀ {m : Nat} {l : List LObj} {o : LObj}, deadAt m l = true → l[m]? = some o → o = .dead
  | m, [], o, _, h => by simp at h
  | 0, x :: r, o, hd, h => by
    simp at h
    subst h
    cases x <;> simp [deadAt] at hd
    rfl
  | m + 1, x :: r, o, hd, h => deadAt_get (m := m) (l := r) (by simpa [deadAt] using hd) (by simpa using h)

theorem ObjOk.home {B B' : Home} {x : Value} {o : LObj} (h : ObjOk A os B w x o) (hg : ∀ ds, o ≠ .gh ds) (hm : ∀ b, o ≠ .dead → blk x = some b → B'.mine b) : ObjOk A os B' w x o := by
  cases o with
  | dead => exact trivial
  | gone => exact h
  | gh ds => exact absurd rfl (hg ds)
  | cells t cs =>
    obtain ⟨g, arr, rfl, hB, rest⟩ := h
    exact ⟨g, arr, rfl, hm g (by simp) rfl, rest⟩
  | row e sz es => exact ⟨fun b hb => hm b (by simp) hb, h.2⟩

/-- what a call makes and hands back, read as data -/
theorem ret_of_retM {f : FuncId} {args : List DV} {L' : List LObj} {d d' : DV} (h : RetM P f [] args [] L' d) (hl : lend L' d (fun x => dle x d')) : Ret P f args d' := by
  refine ⟨h.1, fun A w vals hA hvals => ?_⟩
  have hlaid : Laid A [] [] w := ⟨rfl, fun i x o hi => by simp at hi, fun i j x o y o' b hi => by simp at hi, fun b _ ⟨i, x, o, hi, _⟩ => by simp at hi⟩
  have hall : RepAll (avoid A []) [] w vals args := by
    have gen : ∀ (vs : List Value) (ds : List DV), ImmAll A w vs ds → RepAll (avoid A []) [] w vs ds := by
      intro vs
      induction vs with
      | nil => intro ds h; cases ds <;> first | trivial | exact h.elim
      | cons v vs ih =>
        intro ds h
        cases ds with
        | nil => exact h.elim
        | cons d ds => exact ⟨.imm (h.1.keep (Keeps.less (fun b hb => by
            rcases hb with hb | ⟨i, x, o, hi, _⟩
            · exact hb
            · simp at hi))), ih ds h.2⟩
    exact gen _ _ hvals
  refine (h.2 A w [] vals hA hlaid hall).mono fun e w' he => ?_
  obtain ⟨v, os', rfl, hlaid', hrv, hgr, hblk, _⟩ := he
  have hno : ∀ b, ¬ ofOs [] b := fun b ⟨i, x, o, hi, _⟩ => by simp at hi
  have hnew : ∀ b, ofOs os' b → w.heap.size ≤ b := fun b hb => (hblk b hb).resolve_left (hno b)
  have hgrown : w.grownBy w' none := ⟨hgr.os, hgr.tape, hgr.output, hgr.size, fun k hk _ => hgr.block k hk (hno k)⟩
  have hrep : Rep A ⟨w, fun _ => False, []⟩ 0 os' ⟨[], L'⟩ { tmps := #[], defers := [] } w' := by
    refine ⟨rfl, rfl, ⟨hgr.os, hgr.tape, hgr.output, hgr.size, fun k hk _ => hgr.block k hk (hno k)⟩, fun b hb hm => ?_, hlaid'.loc.symm, fun t => .imm .junk, fun i x o hi => ?_, hlaid'.inj⟩
    · rcases hm with hm | hm
      · have h1 := hA b hb
        have hm : w.heap.size ≤ b := hm
        omega
      · exact hm
    · have hob := hlaid'.obj i x o hi
      cases o with
      | dead => exact trivial
      | gone => exact hob
      | gh ds => exact hob
      | cells t cs =>
        obtain ⟨g, arr, rfl, hB, rest⟩ := hob
        exact ⟨g, arr, rfl, .inl (hnew g ⟨i, _, _, hi, by simp, rfl⟩), rest⟩
      | row e sz es => exact ⟨fun b hb => .inl (hnew b ⟨i, _, _, hi, by simp, hb⟩), hob.2⟩
  obtain ⟨x, hx, him⟩ := lend_imm (s := ⟨[], L'⟩) hrep hrv hl
  exact ⟨v, rfl, him.le hx, hgrown⟩
theorem retM_core (hm : P.follows .mixedOrders = true) (hT : tabOk P tt = true) (h0 : (tinfo tt 0).size = 0) {f : FuncId} {fn : Func} {c : Code} {L L' : List LObj} {args : List DV} {kept : List Bool} {d : DV} (hf : P.funcs[f]? = some fn) (hname : (fn.name == "runtime.NumGoroutine") = false) (hb : fn.body = some c)
    (hfit : codeFits fn.ntmps c = true) (hn : Nat.ble args.length fn.ntmps = true) (hL : noGh L = true) {D : DS → Prop} (h : dcode tt P c (fun e s => match e with
      | .normal | .ret => D s
      | _ => False) ⟨enum 0 args, L ++ ghOf L⟩)
    (hD : ∀ {A0 : Nat → Prop} {w0 : Home} {n : Nat} {os : Objs} {s : DS} {a : Act} {w : World}, Rep A0 w0 n os s a w → D s → ∃ os' s', Rep A0 w0 n os' s' a w ∧ dpostM tt fn.results.toList L kept L' d s') : RetM P f L args kept L' d := by
  have hn := Nat.le_of_ble_eq_true hn
  refine ⟨fun vs w => ?_, fun A w os vals hA hlaid hvals => ?_⟩
  · simp only [callFunc, Sem.run_bind, run_program, Result.andThen_ok, hf, hname, hb, Option.isNone_some]
    rfl
  · obtain ⟨hlen, hvals⟩ := repAll_get hvals
    have hol : os.length = L.length := by rw [← hlaid.loc]; simp
    have hloc : ∀ {i : Nat} {x : Value} {o : LObj}, os[i]? = some (x, o) → L[i]? = some o := by
      intro i x o hi
      rw [← hlaid.loc, List.getElem?_map, hi]
      rfl
    let gh : Objs := match L with
      | [] => []
      | _ => [(.tuple (os.map hdr).toArray, .gh (hdls 0 L))]
    have hghl : gh.map (·.2) = ghOf L := by simp only [gh, ghOf]; cases L <;> rfl
    have hghb : ∀ p ∈ gh, blk p.1 = none := by
      intro p hp
      simp only [gh] at hp
      split at hp
      · simp at hp
      · simp at hp; subst hp; rfl
    have hget1 : ∀ {i : Nat} {x : Value} {o : LObj}, (os ++ gh)[i]? = some (x, o) → os[i]? = some (x, o) ∨ (os.length ≤ i ∧ gh[i - os.length]? = some (x, o) ∧ blk x = none) := by
      intro i x o hi
      by_cases hlt : i < os.length
      · rw [List.getElem?_append_left hlt] at hi; exact .inl hi
      · rw [List.getElem?_append_right (by omega)] at hi
        exact .inr ⟨by omega, hi, hghb _ (List.mem_of_getElem? hi)⟩
    have hof1 : ∀ b, ofOs (os ++ gh) b → ofOs os b := by
      rintro b ⟨i, x, o, hi, hd, hbb⟩
      rcases hget1 hi with hi | ⟨_, _, h2⟩
      · exact ⟨i, x, o, hi, hd, hbb⟩
      · rw [h2] at hbb; cases hbb
    have hal : Alike os (os ++ gh) := fun i x o hi => ⟨o, by rw [List.getElem?_append_left (List.getElem?_eq_some_iff.1 hi).1]; exact hi, by cases o <;> simp [kindIs]⟩
    have hkp : Keeps (avoid A os) (avoid A (os ++ gh)) w w := Keeps.less (by
      rintro b (hb | hb)
      · exact .inl hb
      · exact .inr (hof1 b hb))
    have hmine : ∀ b, ofOs os b → Home.mine ⟨w, ofOs os, os.map hdr⟩ b := fun b hb => .inr hb
    have hrep : Rep A ⟨w, ofOs os, os.map hdr⟩ fn.ntmps (os ++ gh) ⟨enum 0 args, L ++ ghOf L⟩ { tmps := vals.toArray ++ Array.replicate (fn.ntmps - vals.toArray.size) undef, defers := [] } w := by
      refine ⟨by simp; omega, rfl, ⟨rfl, rfl, rfl, Nat.le_refl _, fun _ _ _ => rfl⟩, fun b hb hmn => ?_, by rw [List.map_append, hlaid.loc, hghl], fun t => ?_, fun i x o hi => ?_, fun i j x o y o' b hi hj d1 d2 b1 b2 => ?_⟩
      · rcases hmn with h1 | h1
        · have h2 := hA b hb
          have h1 : w.heap.size ≤ b := h1
          omega
        · exact hlaid.out b hb h1
      · rw [look_enum, if_pos (Nat.zero_le _), Nat.sub_zero]
        cases hd : args[t]? with
        | none => exact .imm .junk
        | some d =>
          have hlt := (List.getElem?_eq_some_iff.1 hd).1
          have hv := List.getElem?_eq_getElem (l := vals) (i := t) (by omega)
          have hi := hvals t _ d hv hd
          have : (vals.toArray ++ Array.replicate (fn.ntmps - vals.toArray.size) undef).getD t undef = vals[t]'(by omega) := by
            rw [Array.getD_eq_getD_getElem?, Array.getElem?_append_left (by simp; omega)]
            simp [hv]
          simp only [Option.getD_some]
          rw [this]
          exact hi.keep hkp hal
      · rcases hget1 hi with hi | ⟨hge, hgi, hbn⟩
        · have hob := (hlaid.obj i x o hi).home (B' := ⟨w, ofOs os, os.map hdr⟩) (noGh_get hL (hloc hi)) (fun b hd hbb => hmine b ⟨i, x, o, hi, hd, hbb⟩)
          exact hob.keep hkp hal (fun _ _ _ => rfl)
        · simp only [gh] at hgi
          split at hgi
          · simp at hgi
          · rename_i hLne
            have h00 : i - os.length = 0 := by
              have := (List.getElem?_eq_some_iff.1 hgi).1
              simpa using this
            rw [h00] at hgi
            simp at hgi
            obtain ⟨rfl, rfl⟩ := hgi
            have gget : ∀ (q : Nat) v e, (os.map hdr)[q]? = some v → (hdls 0 L)[q]? = some e → ∃ x o, os[q]? = some (x, o) ∧ v = hdr (x, o) ∧ e = hdl q o := by
              intro q v e hv he
              obtain ⟨o, h1, h2⟩ := hdls_get L 0 q e he
              rw [List.getElem?_map] at hv
              cases hq : os[q]? with
              | none => rw [hq] at hv; cases hv
              | some p =>
                obtain ⟨x, o2⟩ := p
                have := hloc hq
                rw [h1] at this
                cases this
                rw [hq] at hv
                cases hv
                exact ⟨x, o, rfl, rfl, by rw [h2, Nat.zero_add]⟩
            have one : ∀ (q : Nat) x o, os[q]? = some (x, o) → (hdr (x, o)).oneCell' = true ∧ RepV (avoid A (os ++ gh)) (os ++ gh) w (hdr (x, o)) (hdl q o) := by
              intro q x o hq
              have hq' : (os ++ gh)[q]? = some (x, o) := by rw [List.getElem?_append_left (List.getElem?_eq_some_iff.1 hq).1]; exact hq
              have hob := hlaid.obj q x o hq
              cases o with
              | row e sz es =>
                obtain ⟨xs, hown, _⟩ := obj_row hob
                exact ⟨own_one hown, .own hq' (own_one hown)⟩
              | cells t cs =>
                obtain ⟨g, arr, rfl, _⟩ := hob
                exact ⟨rfl, .lp hq'⟩
              | dead => exact ⟨rfl, .imm .junk⟩
              | gone => exact ⟨rfl, .imm .junk⟩
              | gh ds => exact ⟨rfl, .imm .junk⟩
            refine ⟨rfl, by rw [hdls_len, List.length_map, hol], fun v hv => ?_, fun q v e hv he => ?_⟩
            · obtain ⟨p, hp, rfl⟩ := List.mem_map.1 hv
              obtain ⟨q, hq, rfl⟩ := List.getElem_of_mem hp
              exact (one q _ _ (List.getElem?_eq_getElem hq)).1
            · obtain ⟨x, o, h1, h2, h3⟩ := gget q v e hv he
              subst h2; subst h3
              exact (one q x o h1).2
      · rcases hget1 hi with hi | ⟨_, _, hb1⟩
        · rcases hget1 hj with hj | ⟨_, _, hb2⟩
          · exact hlaid.inj i j x o y o' b hi hj d1 d2 b1 b2
          · rw [hb2] at b2; cases b2
        · rw [hb1] at b1; cases b1
    have done : ∀ (a2 : Act) (w2 : World) (osF : Objs) (sF : DS), Rep A ⟨w, ofOs os, os.map hdr⟩ fn.ntmps osF sF a2 w2 → dpostM tt fn.results.toList L kept L' d sF →
        ∃ v, (results fn a2.tmps).run P w2 = .ok v w2 ∧ ∃ os', Laid A os' L' w2 ∧ RepV (avoid A os') os' w2 v d ∧ Grown (ofOs os) w w2 ∧ (∀ b, ofOs os' b → ofOs os b ∨ w.heap.size ≤ b) ∧ ∀ (i : Nat) x o, kept[i]? = some true → os[i]? = some (x, o) → ∃ o', os'[i]? = some (x, o') := by
      intro a2 w2 osF sF hr hK
      obtain ⟨v, x, ⟨hdx, hle, hck⟩, hrun, hrv⟩ := resM_ok hT hr hK
      simp only [Bool.and_eq_true] at hck
      obtain ⟨⟨⟨⟨⟨hkept, hgh'⟩, hdead⟩, hbd⟩, hbL'⟩, hbF⟩ := hck
      obtain ⟨hks, hLL, _⟩ := keptOk_get (k := 0) hkept
      refine ⟨v, hrun, ?_⟩
      have hfd := hrv.less hdx
      obtain ⟨os2, hr2, hh2, ht2, ha2⟩ := (show Rep A ⟨w, ofOs os, os.map hdr⟩ fn.ntmps osF ⟨[], sF.loc⟩ a2 w2 from ⟨hr.size, hr.defers, hr.gr, hr.a0, hr.loc, fun _ => .imm .junk, hr.obj, hr.inj⟩).le' (t := ⟨[], finL L kept L'⟩) ⟨trivial, hle, by simpa [bndE] using hbF⟩
      have hfin : ∀ {i : Nat} {o : LObj}, (finL L kept L')[i]? = some o → ¬ (L ≠ [] ∧ i = L.length) → L'[i]? = some o := by
        intro i o hi hne
        unfold finL at hi
        split at hi
        · exact hi
        · rename_i hLne
          have hLL' := hLL
          by_cases hlt : i < L.length
          · rw [List.getElem?_append_left (by simp; omega), List.getElem?_take, if_pos hlt] at hi
            exact hi
          · have hgt : L.length < i := by
              rcases Nat.lt_or_ge L.length i with h1 | h1
              · exact h1
              · exact absurd ⟨fun e => hLne e, by omega⟩ hne
            rw [List.getElem?_append_right (by simp; omega)] at hi
            have e1 : (L'.take L.length).length = L.length := by simp; omega
            rw [e1] at hi
            obtain ⟨q, rfl⟩ : ∃ q, i = L.length + (q + 1) := ⟨i - L.length - 1, by omega⟩
            rw [show L.length + (q + 1) - L.length = q + 1 by omega] at hi
            simp only [List.getElem?_cons_succ, List.getElem?_drop] at hi
            rw [← hi]
            congr 1
            omega
      have hle3 : LocLe (finL L kept L') L' := by
        have gen : ∀ (X : List LObj) (Y : List LObj), Y.length ≤ X.length → (∀ (i : Nat) o o', X[i]? = some o → Y[i]? = some o' → ole o o') → LocLe X Y := by
          intro X
          induction X with
          | nil => intro Y hl _; cases Y <;> first | trivial | simp at hl
          | cons x X ih =>
            intro Y hl hp
            cases Y with
            | nil => trivial
            | cons y Y => exact ⟨hp 0 x y rfl rfl, ih Y (by simpa using hl) (fun i o o' h1 h2 => hp (i + 1) o o' (by simpa using h1) (by simpa using h2))⟩
        refine gen _ _ ?_ (fun i o o' h1 h2 => ?_)
        · unfold finL
          split
          · exact Nat.le_refl _
          · simp; omega
        · by_cases hne : L ≠ [] ∧ i = L.length
          · have : o' = .dead := by
              obtain ⟨hne, rfl⟩ := hne
              unfold deadM at hdead
              split at hdead
              · exact absurd rfl hne
              · exact deadAt_get hdead h2
            rw [this]
            exact .dead
          · have := hfin h1 hne
            rw [h2] at this
            cases this
            exact .refl
      obtain ⟨os3, hr3, hh3, ht3, ha3⟩ := hr2.le' (t := ⟨[], L'⟩) ⟨trivial, hle3, by simpa [bndE] using hbL'⟩
      have hmap3 : os3.map (·.2) = L' := hr3.loc.symm
      have hmine3 : ∀ b, ofOs os3 b → Home.mine ⟨w, ofOs os, os.map hdr⟩ b := fun b ⟨i, y, o, hi, hd, hbb⟩ => ((hr3.obj i y o hi).blk_ge hd hbb).1
      have fin2 : ∀ (v : Value) (d : DV), RepV (avoid A osF) osF w2 v d → bnd L' d = true → RepV (avoid A os3) os3 w2 v d := by
          intro v d hfd hbd
          have hb2 : bnd (finL L kept L') d = true := by
            have up : ∀ {j : Nat}, (isRow (lget L' j) = true → isRow (lget (finL L kept L') j) = true) ∧ (isCells (lget L' j) = true → isCells (lget (finL L kept L') j) = true) := by
              intro j
              have key : lget L' j ≠ .dead → lget (finL L kept L') j = lget L' j := by
                intro hnd
                have hj : j < L'.length := by
                  rcases Nat.lt_or_ge j L'.length with h1 | h1
                  · exact h1
                  · exact absurd (by rw [lget_eq, List.getElem?_eq_none h1]; rfl) hnd
                have hj2 : j < (finL L kept L').length := by
                  unfold finL
                  split
                  · exact hj
                  · simp; omega
                have hg := List.getElem?_eq_getElem hj2
                have hne : ¬ (L ≠ [] ∧ j = L.length) := by
                  rintro ⟨hne, rfl⟩
                  unfold deadM at hdead
                  split at hdead
                  · exact hne rfl
                  · have := deadAt_get hdead (List.getElem?_eq_getElem hj)
                    exact hnd (by rw [lget_eq, List.getElem?_eq_getElem hj, this]; rfl)
                have := hfin hg hne
                rw [lget_eq, lget_eq, this, hg]
              constructor
              · intro hq
                rw [key (fun e => by rw [e] at hq; simp [isRow] at hq)]
                exact hq
              · intro hq
                rw [key (fun e => by rw [e] at hq; simp [isCells] at hq)]
                exact hq
            have up0 : ∀ e : DV, bnd0 L' e = true → bnd0 (finL L kept L') e = true := by
              intro e he
              cases e with
              | own j => exact up.1 he
              | rp j k o => exact up.1 he
              | lp j o => exact up.2 he
              | ap j o => exact up.2 he
              | fn g caps =>
                simp only [bnd0, List.all_eq_true] at he ⊢
                intro c hc
                have := he c hc
                cases c <;> first | exact up.2 this | rfl
              | _ => exact he
            by_cases hagg : ∃ cs, d = .agg cs
            · obtain ⟨cs, rfl⟩ := hagg
              simp only [bnd, List.all_eq_true] at hbd ⊢
              exact fun e he => up0 e (hbd e he)
            · have e1 : ∀ l, bnd l d = bnd0 l d := by intro l; cases d <;> first | rfl | exact absurd ⟨_, rfl⟩ hagg
              rw [e1] at hbd ⊢
              exact up0 d hbd
          exact ht3 v d (ht2 v d hfd hb2) hbd
      refine ⟨os3, ⟨hmap3, fun i y o hi => ?_, hr3.inj, fun b hb hof => hr3.a0 b hb (hmine3 b hof)⟩, ?_, hr3.gr, fun b hb => (hmine3 b hb).symm, fun i y o hk hi => ?_⟩
      · refine (hr3.obj i y o hi).home (fun ds e => ?_) (fun _ _ _ => .inr trivial)
        subst e
        have : L'[i]? = some (.gh ds) := by rw [← hmap3, List.getElem?_map, hi]; rfl
        exact noGh_get hgh' this ds rfl
      · by_cases htup : ∃ ds, d = .tup ds
        · obtain ⟨ds, rfl⟩ := htup
          obtain ⟨vs, rfl, hvl, hown, hvp⟩ := hfd.tup_inv
          refine .tup hvl (fun i v d hv hd => ?_) (fun i v d hv hd => ?_)
          · rcases hown i v d hv hd with ho | ho
            · exact .inl ho
            · exact .inr (ho.keep (Keeps.less (fun b hb => ha2 b (ha3 b hb))))
          · rcases hown i v d hv hd with ho | ho
            · have hb1 := List.all_eq_true.1 hbd d (List.mem_of_getElem? hd)
              rw [ho] at hb1
              exact fin2 v d (hvp i v d hv hd) (by simpa using hb1)
            · exact .imm (ho.keep (Keeps.less (fun b hb => ha2 b (ha3 b hb))))
        · have hbd : bnd L' d = true := by
            cases d <;> first | exact hbd | exact absurd ⟨_, rfl⟩ htup
          exact fin2 v d hfd hbd
      · have hLne : L ≠ [] := by
          intro e
          rw [e] at hol
          have := (List.getElem?_eq_some_iff.1 hi).1
          simp at hol
          rw [hol] at this
          simp at this
        have hil : i < L.length := by have := (List.getElem?_eq_some_iff.1 hi).1; omega
        have hL'i := List.getElem?_eq_getElem (l := L') (i := i) (by omega)
        have hkg := keptG_get kept L' 0 i _ hk hL'i
        rw [Nat.zero_add] at hkg
        have hsk := (keptOk_get (k := i) hkept).2.2 o _ hk (hloc hi) hL'i
        have hgl : (finL L kept L')[L.length]? = some (.gh (keptG 0 kept L')) := by
          unfold finL
          split
          · exact absurd rfl hLne
          · have e1 : (L'.take L.length).length = L.length := by simp; omega
            rw [List.getElem?_append_right (by omega), e1, Nat.sub_self]
            rfl
        have hg2 : ∃ y, os2[L.length]? = some (y, .gh (keptG 0 kept L')) := by
          have hloc2 : finL L kept L' = os2.map (·.2) := hr2.loc
          rw [hloc2, List.getElem?_map] at hgl
          cases hq : os2[L.length]? with
          | none => rw [hq] at hgl; cases hgl
          | some p =>
            obtain ⟨y, ob⟩ := p
            rw [hq] at hgl
            simp at hgl
            exact ⟨y, by rw [hgl]⟩
        obtain ⟨y2, hg2⟩ := hg2
        obtain ⟨_, _, _, hgr2⟩ := hr2.obj _ _ _ hg2
        have hhd : (os.map hdr)[i]? = some (hdr (y, o)) := by rw [List.getElem?_map, hi]; rfl
        have hrep2 := hgr2 i _ _ hhd hkg
        have hnei : ¬ (L ≠ [] ∧ i = L.length) := by rintro ⟨_, e⟩; omega
        have h2i : ∃ z, os2[i]? = some (z, L'[i]'(by omega)) := by
          have hloc2 : finL L kept L' = os2.map (·.2) := hr2.loc
          have hfi : (finL L kept L')[i]? = some (L'[i]'(by omega)) := by
            have hj2 : i < (finL L kept L').length := by
              unfold finL
              split
              · exact absurd rfl hLne
              · simp; omega
            have hg := List.getElem?_eq_getElem hj2
            have := hfin hg hnei
            rw [hL'i] at this
            rw [hg, ← this]
          rw [hloc2, List.getElem?_map] at hfi
          cases hq : os2[i]? with
          | none => rw [hq] at hfi; cases hfi
          | some p => rw [hq] at hfi; simp at hfi; exact ⟨p.1, by rw [← hfi]⟩
        obtain ⟨z, h2i⟩ := h2i
        have hz : z = y := by
          generalize hob : (L'[i]'(by omega)) = ob at *
          cases o <;> cases ob <;> simp [sameKind] at hsk
          · simp only [hdl] at hrep2
            obtain ⟨g, t', cs', h5, h6⟩ := hrep2.lp_inv
            rw [h2i] at h5
            cases h5
            exact h6.symm
          · simp only [hdl] at hrep2
            exact (hrep2.own_row h2i).symm
        subst hz
        have h3i : i < os3.length := by
          have : os3.length = L'.length := by rw [← hmap3]; simp
          omega
        have h3g := List.getElem?_eq_getElem h3i
        obtain ⟨o4, h4, _⟩ := hh3 i _ _ (show os3[i]? = some (os3[i].1, os3[i].2) from h3g)
        rw [h2i] at h4
        cases h4
        exact ⟨_, h3g⟩
    refine calls_of_wp hf hb (dcode_ok (A0 := A) (w0 := ⟨w, ofOs os, os.map hdr⟩) (n := fn.ntmps) hm hT h0 c hfit (fun e a w' hN => ?_) hrep h)
    obtain ⟨osF, sF, hr, hK⟩ := hN
    cases e with
    | normal =>
      obtain ⟨osG, sG, hr2, hK⟩ := hD hr hK
      obtain ⟨v, hv, os', h1, h2, h3, h4, h5⟩ := done _ _ _ _ hr2 hK
      exact ⟨hr.defers, v, hv, v, os', rfl, h1, h2, h3, h4, h5⟩
    | ret =>
      obtain ⟨osG, sG, hr2, hK⟩ := hD hr hK
      obtain ⟨v, hv, os', h1, h2, h3, h4, h5⟩ := done _ _ _ _ hr2 hK
      exact ⟨hr.defers, v, hv, v, os', rfl, h1, h2, h3, h4, h5⟩
    | _ => exact hK.elim
theorem retM_of_body (hm : P.follows .mixedOrders = true) (hT : tabOk P tt = true) (h0 : (tinfo tt 0).size = 0) {f : FuncId} {fn : Func} {c : Code} {L L' : List LObj} {args : List DV} {kept : List Bool} {d : DV} (hf : P.funcs[f]? = some fn) (hname : (fn.name == "runtime.NumGoroutine") = false) (hb : fn.body = some c)
    (hfit : codeFits fn.ntmps c = true) (hn : Nat.ble args.length fn.ntmps = true) (hL : noGh L = true) (h : dbodyM tt P c fn.results.toList L args kept L' d) : RetM P f L args kept L' d :=
  retM_core hm hT h0 hf hname hb hfit hn hL (D := dpostM tt fn.results.toList L kept L' d) h fun hr hK => ⟨_, _, hr, hK⟩
/-- the same, where nil slots may turn rows of one's own at the end -/
def dbodyA (tt : TT) (P : Program) (c : Code) (rs : List ResultVar) (L : List LObj) (args : List DV) (kept : List Bool) (L' : List LObj) (d : DV) : Prop :=
  dcode tt P c (fun e s => match e with
    | .normal | .ret => ∃ ads, adoptK ads s fun s => dpostM tt rs L kept L' d s
    | _ => False) ⟨enum 0 args, L ++ ghOf L⟩
theorem retM_of_bodyA (hm : P.follows .mixedOrders = true) (hT : tabOk P tt = true) (h0 : (tinfo tt 0).size = 0) {f : FuncId} {fn : Func} {c : Code} {L L' : List LObj} {args : List DV} {kept : List Bool} {d : DV} (hf : P.funcs[f]? = some fn) (hname : (fn.name == "runtime.NumGoroutine") = false) (hb : fn.body = some c)
    (hfit : codeFits fn.ntmps c = true) (hn : Nat.ble args.length fn.ntmps = true) (hL : noGh L = true) (h : dbodyA tt P c fn.results.toList L args kept L' d) : RetM P f L args kept L' d :=
  retM_core hm hT h0 hf hname hb hfit hn hL (D := fun s => ∃ ads, adoptK ads s fun s => dpostM tt fn.results.toList L kept L' d s) h fun hr hK => by
    obtain ⟨ads, hK⟩ := hK
    exact adopt_ok ads hr hK
/-- the place of the handed objects' headers falls away -/
theorem RetM.squeeze {f : FuncId} {L L1 L2 : List LObj} {args : List DV} {kept : List Bool} {d : DV} (h : RetM P f L args kept (L1 ++ .dead :: L2) d) (hk : kept.length ≤ L1.length) :
    RetM P f L args kept ((L1 ++ L2).map (mvO (dn L1.length))) (mvT (dn L1.length) d) := by
  refine ⟨h.1, fun A w os vals hA hlaid hargs => (h.2 A w os vals hA hlaid hargs).mono fun e w' he => ?_⟩
  obtain ⟨v, os1, rfl, hl1, hrv, hgr, hblk, hkp⟩ := he
  have hm : ∃ y, os1[L1.length]? = some (y, .dead) := by
    have h1 : (os1.map (·.2))[L1.length]? = some .dead := by rw [hl1.loc]; simp
    rw [List.getElem?_map] at h1
    cases hg : os1[L1.length]? with
    | none => rw [hg] at h1; cases h1
    | some p => rw [hg] at h1; rcases p with ⟨y, o⟩; simp at h1; subst h1; exact ⟨y, rfl⟩
  generalize hml : L1.length = m at *
  obtain ⟨y0, hm⟩ := hm
  have dn_lt : ∀ {k : Nat}, ¬ m < k → dn m k = k := fun {k} hk => by
    unfold dn
    have : Nat.blt m k = false := by
      cases hb : Nat.blt m k
      · rfl
      · exact absurd (Nat.le_of_ble_eq_true hb) hk
    rw [this]
  have dn_gt : ∀ {k : Nat}, m < k → dn m k = k - 1 := fun {k} hk => by
    unfold dn
    have : Nat.blt m k = true := Nat.ble_eq_true_of_le hk
    rw [this]
  let os2 : Objs := (os1.eraseIdx m).map fun p => (p.1, mvO (dn m) p.2)
  have e2 : ∀ j, os2[j]? = (if j < m then os1[j]? else os1[j + 1]?).map fun p => (p.1, mvO (dn m) p.2) := fun j => by
    simp only [os2, List.getElem?_map, List.getElem?_eraseIdx]
  have hget : ∀ (k : Nat) x ob, (∀ ds, ob ≠ .gh ds) → ob ≠ .dead → os1[k]? = some (x, ob) → os2[dn m k]? = some (x, mvO (dn m) ob) := fun k x ob _ hd hk => by
    rcases Nat.lt_trichotomy k m with hlt | he | hgt
    · rw [dn_lt (by omega), e2, if_pos hlt, hk]
      rfl
    · rw [he, hm] at hk
      cases hk
      exact absurd rfl hd
    · rw [dn_gt hgt, e2, if_neg (by omega), show k - 1 + 1 = k by omega, hk]
      rfl
  have back : ∀ {j : Nat} {x : Value} {o' : LObj}, os2[j]? = some (x, o') → ∃ k o, os1[k]? = some (x, o) ∧ o' = mvO (dn m) o ∧ ((k < m ∧ k = j) ∨ (¬ j < m ∧ k = j + 1)) := fun {j x o'} hj => by
    rw [e2] at hj
    by_cases hlt : j < m
    · rw [if_pos hlt] at hj
      cases hg : os1[j]? with
      | none => rw [hg] at hj; cases hj
      | some p => rw [hg] at hj; cases hj; exact ⟨j, p.2, hg, rfl, .inl ⟨hlt, rfl⟩⟩
    · rw [if_neg hlt] at hj
      cases hg : os1[j + 1]? with
      | none => rw [hg] at hj; cases hj
      | some p => rw [hg] at hj; cases hj; exact ⟨j + 1, p.2, hg, rfl, .inr ⟨hlt, rfl⟩⟩
  have hdead : ∀ {o : LObj}, mvO (dn m) o ≠ .dead → o ≠ .dead := fun {o} hd e => by
    subst e
    exact hd rfl
  have hof : ∀ b, ofOs os2 b → ofOs os1 b := by
    rintro b ⟨j, x, o', hj, hd, hb⟩
    obtain ⟨k, o, hk, rfl, _⟩ := back hj
    exact ⟨k, x, o, hk, hdead hd, hb⟩
  have hav : ∀ b, avoid A os2 b → avoid A os1 b := by
    rintro b (hb | hb)
    · exact .inl hb
    · exact .inr (hof b hb)
  have k : Keeps (avoid A os1) (avoid A os2) w' w' := Keeps.less hav
  refine ⟨v, os2, rfl, ⟨?_, fun j x o' hj => ?_, fun i j x o y o' b hi hj d1 d2 b1 b2 => ?_, fun b hA hb => hl1.out b hA (hof b hb)⟩, (RepV.ren hget k hrv).2, hgr, fun b hb => hblk b (hof b hb), fun i x o hki hi => ?_⟩
  · have : os2.map (·.2) = ((os1.map (·.2)).eraseIdx m).map (mvO (dn m)) := by
      apply List.ext_getElem?
      intro j
      simp only [List.getElem?_map, List.getElem?_eraseIdx, e2]
      by_cases hj : j < m
      · simp only [if_pos hj]
        cases os1[j]? <;> rfl
      · simp only [if_neg hj]
        cases os1[j + 1]? <;> rfl
    rw [this, hl1.loc, ← hml, List.eraseIdx_append_of_length_le (Nat.le_refl _), Nat.sub_self]
    rfl
  · obtain ⟨q, o, hq, rfl, _⟩ := back hj
    have hob := hl1.obj q x o hq
    cases o with
    | dead => exact trivial
    | gone => exact hob
    | gh ds => exact trivial
    | cells ty cs =>
      obtain ⟨g, arr, rfl, hB, hh, hs, hone, hr⟩ := hob
      refine ⟨g, arr, rfl, hB, hh, by simpa using hs, hone, fun j' v d hv hd => ?_⟩
      rw [List.getElem?_map] at hd
      cases hc : cs[j']? with
      | none => rw [hc] at hd; cases hd
      | some e =>
        rw [hc] at hd
        simp at hd
        subst hd
        exact (RepV.ren hget k (hr j' v e hv hc)).1 (hone v (List.mem_of_getElem? (by rw [Array.getElem?_toList]; exact hv)))
    | row e sz es =>
      obtain ⟨hmine, xs, hown, hsz, hrl, hone, hr⟩ := hob
      exact ⟨hmine, xs, hown, hsz, hrl, hone, fun k' j' r d h1 h2 => by
        obtain ⟨v, hv, hi⟩ := hr k' j' r d h1 h2
        exact ⟨v, hv, hi.keep k⟩⟩
  · obtain ⟨p, o1, ho1, rfl, c1⟩ := back hi
    obtain ⟨q, o2, ho2, rfl, c2⟩ := back hj
    have := hl1.inj _ _ _ _ _ _ b ho1 ho2 (hdead d1) (hdead d2) b1 b2
    omega
  · obtain ⟨o', ho'⟩ := hkp i x o hki hi
    have hil : i < m := by
      have := (List.getElem?_eq_some_iff.1 hki).1
      omega
    exact ⟨mvO (dn m) o', by rw [e2, if_pos hil, ho']; rfl⟩
end
end Go.Lift

set_option linter.unusedSimpArgs false
set_option linter.unusedVariables false
namespace Go.Lift
open Go

/-! # The tape is read onward only -/
def rw' {α : Type} : Result α → World
  | .ok _ w => w
  | .halt _ w => w
theorem ask_mono {α : Type} (a : Ask α) : ∀ w : World, w.drawn ≤ (w.ask a).2.drawn := by
  induction a with
  | done a => intro w; simp [World.ask]
  | ask what range k ih =>
    intro w
    simp only [World.ask]
    split
    · exact ih _ _
    · refine Nat.le_trans ?_ (ih _ _)
      exact Nat.le_succ _
theorem sys_mono (w : World) (c : Sys) : w.drawn ≤ (w.sys c).2.drawn := by
  have := ask_mono (Kernel.perform c w.os) w
  unfold World.sys
  generalize w.ask (Kernel.perform c w.os) = x at this
  obtain ⟨⟨r, os⟩, w'⟩ := x
  cases r <;> simp_all
theorem viewStore_drawn {p : Program} {w w' : World} {a : Addr} {u : TypeId} {k : Addr} {v : Value} {b : Bool} {l : List Addr} (h : w.viewStore p a u k v b = .ok (w', l)) : w'.drawn = w.drawn := by
  unfold World.viewStore at h
  simp only [bind, Except.bind, pure, Except.pure, throw, throwThe, MonadExceptOf.throw] at h
  repeat' first
    | (cases h; done)
    | (simp only [Except.ok.injEq, Prod.mk.injEq] at h; obtain ⟨h, _⟩ := h; subst h; rfl)
    | split at h
theorem run_mono {α : Type} (p : Program) (s : Sem α) : ∀ w : World, w.drawn ≤ (rw' (s.run p w)).drawn := by
  induction s with
  | pure a => intro w; exact Nat.le_refl _
  | load m a k ih =>
    intro w
    simp only [Sem.run]
    split
    · exact ih _ _
    · split
      · exact ih _ _
      · exact Nat.le_refl _
  | store m a v k ih =>
    intro w
    have hf : ∀ w' l, w.farStore p a v (m == .atomic) = .ok (w', l) → w.drawn ≤ w'.drawn := fun w' l h => by
      unfold World.farStore at h
      split at h
      · split at h
        · rename_i r hr
          simp only [Except.ok.injEq] at h
          subst h
          exact Nat.le_of_eq (viewStore_drawn hr).symm
        · cases h
      · cases h
    cases v with
    | agg _ => exact Nat.le_refl _
    | tuple _ => exact Nat.le_refl _
    | _ =>
      simp only [Sem.run]
      split
      · split
        · exact Nat.le_refl _
        · refine Nat.le_trans ?_ (ih _); exact Nat.le_refl _
      · split
        · rename_i hw
          exact Nat.le_trans (hf _ _ hw) (ih _)
        · exact Nat.le_refl _
  | new o k ih => intro w; simp only [Sem.run]; refine Nat.le_trans ?_ (ih _ _); exact Nat.le_refl _
  | shape r k ih => intro w; exact ih _ _
  | freeze a n k ih => intro w; refine Nat.le_trans ?_ (ih _); simp [World.freeze]; split <;> simp
  | frozen a k ih => intro w; exact ih _ _
  | getObj r k ih =>
    intro w
    simp only [Sem.run]
    split
    · exact Nat.le_refl _
    · exact ih _ _
    · exact Nat.le_refl _
  | setObj r o k ih =>
    intro w
    simp only [Sem.run]
    split
    · exact Nat.le_refl _
    · refine Nat.le_trans ?_ (ih _); exact Nat.le_refl _
    · exact Nat.le_refl _
  | choose q k ih =>
    intro w
    simp only [Sem.run]
    split
    · exact ih _ _
    · refine Nat.le_trans ?_ (ih _ _); exact Nat.le_succ _
  | sys c k ih => intro w; exact Nat.le_trans (sys_mono w c) (ih _ _)
  | program k ih => intro w; exact ih _ _
  | mark m k ih => intro w; exact ih _
  | halt h => intro w; exact Nat.le_refl _
theorem run_ok {α : Type} {p : Program} {s : Sem α} {w w' : World} {a : α} (h : s.run p w = .ok a w') : w.drawn ≤ w'.drawn := by
  have := run_mono p s w
  rw [h] at this
  exact this
theorem run_halt {α : Type} {p : Program} {s : Sem α} {w w' : World} {a : Halt} (h : s.run p w = .halt a w') : w.drawn ≤ w'.drawn := by
  have := run_mono p s w
  rw [h] at this
  exact this
theorem run_res {α : Type} {p : Program} {s : Sem α} {w : World} {r : Result α} (h : s.run p w = r) : w.drawn ≤ (rw' r).drawn := by
  subst h
  exact run_mono p s w
theorem sys_ok {w w' : World} {c : Sys} {r : SysRet} (h : w.sys c = (r, w')) : w.drawn ≤ w'.drawn := by
  have := sys_mono w c
  rw [h] at this
  exact this
def gw : GStep → World
  | .go _ w _ => w
  | .comm _ _ _ _ w _ => w
  | .spawn _ _ w _ => w
  | .count _ w _ => w
  | .timer _ _ w _ => w
  | .alone _ _ w _ => w
  | .newcoro _ _ _ w _ => w
  | .coroswitch _ _ _ w _ => w
  | .collect _ w _ => w
  | .watch _ w _ => w
  | .ended _ w _ => w
@[simp] theorem gw_after (es : Array Event) (s : GStep) : gw (s.after es) = gw s := by cases s <;> rfl
theorem gw_go (g : Goroutine) (w : World) (es : Array Event) : gw (.go g w es) = w := rfl
theorem gw_ended (o : Outcome) (w : World) (es : Array Event) : gw (.ended o w es) = w := rfl
theorem endWith_mono (w : World) (fd : Nat) (x : ByteArray) (o : Outcome) : w.drawn ≤ (gw (endWith w fd x o)).drawn := by
  unfold endWith
  simp only []
  repeat' first
    | exact sys_ok (by assumption)
    | split
theorem endThrow_mono (fr : Frame) (m : String) (w : World) : w.drawn ≤ (gw (endThrow fr m w)).drawn := Nat.le_refl _
theorem endPrinting_mono (p : Program) (fr : Frame) (v : Value) (w : World) : w.drawn ≤ (gw (endPrinting p fr v w)).drawn := by
  unfold endPrinting
  simp only []
  repeat' first
    | exact endThrow_mono _ _ _
    | exact Nat.le_refl _
    | split
theorem endFatal_mono (p : Program) (fr : Frame) (cs : List Frame) (d : Option Dying) (m : String) (w : World) : w.drawn ≤ (gw (endFatal p fr cs d m w)).drawn := by
  unfold endFatal
  simp only []
  repeat' first
    | exact run_ok (by assumption)
    | exact run_halt (by assumption)
    | split
theorem writeOn_mono (p : Program) (fr : Frame) (d : Dying) (f : Fatal) (w : World) : w.drawn ≤ (gw (writeOn p fr d f w)).drawn := by
  unfold writeOn
  simp only [Sem.runT_eq]
  split
  · exact Nat.le_refl _
  · generalize hs : Sem.run p _ w = r
    have := run_res hs
    cases r with
    | ok a w' => exact this
    | halt h w' => cases h <;> exact this
theorem die_mono (p : Program) (fr : Frame) (d : Dying) (w : World) : w.drawn ≤ (gw (die p fr d w)).drawn := by
  unfold die
  simp only [Sem.runT_eq]
  split
  · exact writeOn_mono _ _ _ _ _
  · split
    · split
      · exact Nat.le_refl _
      · exact endWith_mono _ _ _ _
    · split
      · exact Nat.le_refl _
      · split
        · exact run_ok (by assumption)
        · exact run_halt (by assumption)
      · rw [gw_after]
        generalize hs : Sem.run p _ w = r
        have := run_res hs
        clear hs
        split
        · exact this
        · exact this
        · exact this
        · exact Nat.le_trans this (endPrinting_mono _ _ _ _)
        · cases r <;> exact Nat.le_refl _
      · exact Nat.le_refl _
theorem doReturn_mono (p : Program) (main : Bool) (fr : Frame) (cs : List Frame) (d : Option Dying) (v : Value) (w : World) : w.drawn ≤ (gw (doReturn p main fr cs d v w)).drawn := by
  unfold doReturn
  repeat' first
    | exact Nat.le_refl _
    | split
theorem gw_ite {c : Prop} [Decidable c] {a b : GStep} {n : Nat} (h1 : n ≤ (gw a).drawn) (h2 : n ≤ (gw b).drawn) : n ≤ (gw (if c then a else b)).drawn := by
  split <;> assumption
theorem callDeferred_mono (p : Program) (fr : Frame) (cs : List Frame) (dy : Option Dying) (d : Deferred) (w : World) : w.drawn ≤ (gw (callDeferred p fr cs dy d w)).drawn := by
  unfold callDeferred
  simp only [Sem.runT_eq]
  refine gw_ite ?_ ?_
  · exact Nat.le_refl _
  · rw [gw_after]
    generalize hs : Sem.run p _ w = r
    have := run_res hs
    clear hs
    repeat' first
      | exact this
      | exact Nat.le_trans this (endFatal_mono _ _ _ _ _ _)
      | exact Nat.le_trans this (endThrow_mono _ _ _)
      | split
theorem unwind_mono (p : Program) (main : Bool) (fr : Frame) (cs : List Frame) (dy : Option Dying) (w : World) : w.drawn ≤ (gw (unwind p main fr cs dy w)).drawn := by
  unfold unwind
  simp only [Sem.runT_eq]
  repeat' first
    | exact Nat.le_refl _
    | exact callDeferred_mono _ _ _ _ _ _
    | exact doReturn_mono _ _ _ _ _ _ _
    | exact endPrinting_mono _ _ _ _
    | exact run_ok (by assumption)
    | exact run_halt (by assumption)
    | exact Nat.le_trans (run_ok (by assumption)) (doReturn_mono _ _ _ _ _ _ _)
    | rw [gw_after]
    | split
theorem early_mono (p : Program) (fr : Frame) (cs : List Frame) (dy : Option Dying) (g : Nat) (w : World) : w.drawn ≤ (gw (early p fr cs dy g w)).drawn := by
  unfold early
  simp only []
  repeat' first
    | exact Nat.le_refl _
    | (refine Nat.le_trans (run_ok (by assumption)) ?_; exact Nat.le_refl _)
    | exact run_ok (by assumption)
    | exact run_halt (by assumption)
    | split
theorem apply_mono (p : Program) (fr : Frame) (cs : List Frame) (dy : Option Dying) (s : Sem Next) (w : World) (b : Bool) : w.drawn ≤ (gw (stepG.apply p b fr cs dy s w)).drawn := by
  unfold stepG.apply
  simp only [Sem.runT_eq]
  rw [gw_after]
  generalize hx : (if b = true then (Sem.run p s w, Sem.events p s w #[]) else (Sem.run p s w, #[])) = x
  obtain ⟨r, es⟩ := x
  have : w.drawn ≤ (rw' r).drawn := by
    cases b <;> simp at hx <;> exact run_res hx.1
  clear hx
  simp only []
  repeat' first
    | exact this
    | exact Nat.le_trans this (endFatal_mono _ _ _ _ _ _)
    | exact Nat.le_trans this (endThrow_mono _ _ _)
    | exact Nat.le_trans this (early_mono _ _ _ _ _ _)
    | split
theorem oper_mono (p : Program) (fr : Frame) (cs : List Frame) (dy : Option Dying) (w : World) (b : Bool) : w.drawn ≤ (gw (stepG.oper p b fr cs dy w)).drawn := by
  unfold stepG.oper
  repeat' first
    | exact Nat.le_refl _
    | exact apply_mono _ _ _ _ _ _ _
    | split
theorem option_elim {α : Type} {o : Option α} {b : GStep} {f : α → GStep} {n : Nat} (h1 : n ≤ (gw b).drawn) (h2 : ∀ a, n ≤ (gw (f a)).drawn) : n ≤ (gw (o.elim b f)).drawn := by
  cases o
  · exact h1
  · exact h2 _
set_option maxHeartbeats 4000000 in
theorem exec_mono (p : Program) (main : Bool) (fr : Frame) (cs : List Frame) (dy : Option Dying) (w : World) (b : Bool) : w.drawn ≤ (gw (stepG.exec p main b fr cs dy w)).drawn := by
  unfold stepG.exec
  simp only [Sem.runT_eq]
  split
  all_goals (try simp only [gw_go, gw_ended, Nat.le_refl])
  all_goals repeat' first
    | (with_reducible exact Nat.le_refl _)
    | (with_reducible exact apply_mono _ _ _ _ _ _ _)
    | (with_reducible exact oper_mono _ _ _ _ _ _)
    | (with_reducible exact run_ok (by assumption))
    | (with_reducible exact run_halt (by assumption))
    | (with_reducible exact Nat.le_trans (run_ok (by assumption)) (doReturn_mono _ _ _ _ _ _ _))
    | (with_reducible exact Nat.le_trans (run_ok (by assumption)) (apply_mono _ _ _ _ _ _ _))
    | (with_reducible refine option_elim ?_ (fun _ => ?_))
    | rw [gw_after]
    | simp only [gw_go, gw_ended, Nat.le_refl]
    | split
theorem stepG_mono (p : Program) (main : Bool) (g : Goroutine) (w : World) (b : Bool) : w.drawn ≤ (gw (stepG p main g w b)).drawn := by
  obtain ⟨fr, cs, st, dy, of⟩ := g
  unfold stepG
  simp only []
  split
  · exact die_mono _ _ _ _
  · exact exec_mono _ _ _ _ _ _ _
  · exact unwind_mono _ _ _ _ _ _
theorem communicate_mono {p : Program} {rest : Rest} {gs : Array Goroutine} {i : Nat} {g : Goroutine} {cases : Array CommCase} {blocking : Bool} {shape : CommShape} {w : World} {m' : Machine}
    (h : (communicate p rest gs i g cases blocking shape w).1 = .next m') : w.drawn ≤ m'.world.drawn := by
  unfold communicate at h
  simp only [] at h
  have hw : ∀ w', waitingAt rest cases w = some w' → w.drawn ≤ w'.drawn := fun w' h => by
    unfold waitingAt at h
    split at h
    · split at h
      · simp only [Option.some.injEq] at h; subst h; exact Nat.le_refl _
      · cases h
    · simp only [Option.some.injEq] at h; subst h; exact Nat.le_refl _
  repeat' first
    | (simp at h; done)
    | (simp only [Stepped.next.injEq] at h; subst h; exact Nat.le_refl _)
    | (simp only [Stepped.next.injEq] at h; subst h; exact hw _ (by assumption))
    | (simp only [Stepped.next.injEq] at h; subst h; refine Nat.le_trans (run_ok (by assumption)) ?_; exact Nat.le_refl _)
    | (simp only [Stepped.next.injEq] at h; subst h; refine Nat.le_trans (run_ok (by assumption)) (Nat.le_trans (run_ok (by assumption)) ?_); exact Nat.le_refl _)
    | (simp only [Stepped.next.injEq] at h; subst h; refine Nat.le_trans (run_ok (by assumption)) (Nat.le_trans (run_halt (by assumption)) ?_); exact Nat.le_refl _)
    | split at h
theorem look_mono {p : Program} {gs : Array Goroutine} {rest : Rest} {w : World} {m' : Machine} (h : Go.look p gs rest w = Stepped.next m') : w.drawn ≤ m'.world.drawn := by
  unfold Go.look at h
  simp only [] at h
  repeat' first
    | (simp at h; done)
    | (simp only [Stepped.next.injEq] at h; subst h; refine Nat.le_trans (run_ok (by assumption)) ?_; exact Nat.le_refl _)
    | split at h
theorem serve_mono {p : Program} {m m' : Machine} {k : Nat} (h : serve p m k = .next m') : m.world.drawn ≤ m'.world.drawn := by
  unfold serve at h
  simp only [] at h
  repeat' first
    | (simp at h; done)
    | (simp only [Stepped.next.injEq] at h; subst h; exact Nat.le_refl _)
    | split at h
theorem drain_mono (w : World) (c : Nat) : (drain w c).2.drawn = w.drawn := by
  unfold drain
  split <;> rfl
theorem retime_mono (m : Machine) (k : Nat) (t : Timer) (a b : Nat) : (retime m k t a b).2.world.drawn = m.world.drawn := by
  unfold retime
  cases t.chan <;> simp [drain_mono]
theorem timerOp_mono {m m' : Machine} {op : TimerOp} {v : Value} (h : timerOp m op = .ok (v, m')) : m.world.drawn ≤ m'.world.drawn := by
  have ho : ∀ var m1, timerOp.opened m var = some m1 → m1.world.drawn = m.world.drawn := fun var m1 h => by
    unfold timerOp.opened at h
    split at h
    · split at h
      · simp only [Option.some.injEq] at h; subst h; rfl
      · cases h
    · simp only [Option.some.injEq] at h; subst h; rfl
  have hn : ∀ (m1 : Machine) var (f : Nat → Timer → Value × Machine), (∀ k t, (f k t).2.world.drawn = m.world.drawn) → timerOp.named m1 var f = .ok (v, m') → m.world.drawn ≤ m'.world.drawn := fun m1 var f hf h => by
    unfold timerOp.named at h
    split at h
    · simp only [Except.ok.injEq] at h
      have := congrArg (fun (x : Value × Machine) => x.2.world.drawn) h
      simp only [hf] at this
      exact Nat.le_of_eq this
    · cases h
  unfold timerOp at h
  simp only [] at h
  split at h
  · split at h
    · simp only [Except.ok.injEq, Prod.mk.injEq] at h; obtain ⟨_, h⟩ := h; subst h; exact Nat.le_refl _
    · split at h
      · split at h
        · cases h
        · simp only [Except.ok.injEq, Prod.mk.injEq] at h; obtain ⟨_, h⟩ := h; subst h; exact Nat.le_refl _
      · cases h
  · exact hn _ _ _ (fun k t => retime_mono _ _ _ _ _) h
  · split at h
    · rename_i hop
      exact hn _ _ _ (fun k t => (retime_mono _ _ _ _ _).trans (ho _ _ hop)) h
    · cases h
  · simp only [Except.ok.injEq, Prod.mk.injEq] at h; obtain ⟨_, h⟩ := h; subst h; exact Nat.le_refl _
theorem runT_mono {p : Program} {m m' : Machine} {i : Nat} {b : Bool} (h : (runT p m i b).1 = .next m') : m.world.drawn ≤ m'.world.drawn := by
  simp only [runT] at h
  revert h
  generalize m.gs.swapAt! _ _ = gg
  have hg := stepG_mono p (i == 0) gg.1 m.world b
  revert hg
  generalize stepG p _ gg.1 m.world b = s
  intro hg h
  cases s <;> simp only [] at h <;> simp only [gw] at hg
  all_goals first
    | (simp at h; done)
    | exact Nat.le_trans hg (communicate_mono h)
    | exact Nat.le_trans hg (look_mono h)
    | (simp only [Stepped.next.injEq] at h; subst h; exact hg)
    | (repeat' first
        | (simp at h; done)
        | (simp only [Stepped.next.injEq] at h; subst h; exact hg)
        | (simp only [Stepped.next.injEq] at h; subst h; exact Nat.le_trans hg (timerOp_mono (by assumption)))
        | (simp only [endThrow, dieOf, Stepped.next.injEq] at h; subst h; exact hg)
        | split at h)
theorem serve_none {p : Program} {m : Machine} {k : Nat} {m' : Machine} {w : World} (hw : m.world.drawn ≤ w.drawn) (h : serve p { m with world := w } k = .next m') : m.world.drawn ≤ m'.world.drawn :=
  Nat.le_trans hw (serve_mono h)
theorem askOn_mono {p : Program} {m : Machine} : (∀ m' i, askOn p m = .goroutine m' i → m.world.drawn ≤ m'.world.drawn) ∧ ∀ m' ops, askOn p m = .machine (.next m') ops → m.world.drawn ≤ m'.world.drawn := by
  constructor
  · intro m' i h
    unfold askOn at h
    simp only [] at h
    repeat' first
      | (simp at h; done)
      | (simp only [Move.goroutine.injEq] at h; obtain ⟨h, _⟩ := h; subst h; (try simp only [Machine.advanceTo] at *); repeat (first | (with_reducible exact Nat.le_refl _) | (with_reducible refine Nat.le_trans ?_ (run_ok (by assumption))) | dsimp only))
      | split at h
  · intro m' ops h
    unfold askOn at h
    simp only [] at h
    repeat' first
      | (simp at h; done)
      | (simp only [Move.machine.injEq] at h; exact serve_none (run_ok (by assumption)) h.1)
      | (simp only [Move.machine.injEq, Stepped.next.injEq] at h; obtain ⟨h, _⟩ := h; subst h; (try simp only [Machine.advanceTo] at *); repeat (first | (with_reducible exact Nat.le_refl _) | (with_reducible refine Nat.le_trans ?_ (run_ok (by assumption))) | dsimp only))
      | split at h
theorem ask_mono' {p : Program} {m : Machine} : (∀ m' i, Go.ask p m = .goroutine m' i → m.world.drawn ≤ m'.world.drawn) ∧ ∀ m' ops, Go.ask p m = .machine (.next m') ops → m.world.drawn ≤ m'.world.drawn := by
  have key : (∃ m2, m.world.drawn ≤ m2.world.drawn ∧ Go.ask p m = askOn p m2) ∨ (∃ o w, Go.ask p m = .machine (.ended o w)) := by
    unfold Go.ask
    split
    · split
      · exact .inr ⟨_, _, rfl⟩
      · rename_i hr
        cases hl : Go.look p m.gs m.rest _ with
        | next m2 => exact .inl ⟨m2, Nat.le_trans (run_ok hr) (look_mono hl), rfl⟩
        | ended o w => exact .inr ⟨o, w, rfl⟩
      · rename_i hr
        exact .inl ⟨_, run_ok hr, rfl⟩
    · exact .inl ⟨m, Nat.le_refl _, rfl⟩
  rcases key with ⟨m2, h1, h2⟩ | ⟨o, w, h2⟩
  · rw [h2]
    exact ⟨fun m' i h => Nat.le_trans h1 (askOn_mono.1 m' i h), fun m' ops h => Nat.le_trans h1 (askOn_mono.2 m' ops h)⟩
  · rw [h2]
    exact ⟨fun m' i h => (by simp at h), fun m' ops h => (by simp at h)⟩
theorem move_mono {p : Program} {m : Machine} : (∀ m' i, move p m = .goroutine m' i → m.world.drawn ≤ m'.world.drawn) ∧ ∀ m' ops, move p m = .machine (.next m') ops → m.world.drawn ≤ m'.world.drawn := by
  constructor
  · intro m' i h
    unfold move at h
    repeat' first
      | (simp at h; done)
      | (simp only [Move.goroutine.injEq] at h; obtain ⟨h, _⟩ := h; subst h; exact Nat.le_refl _)
      | exact ask_mono'.1 _ _ h
      | exact (ask_mono' (m := { m with rest := { m.rest with slice := none } })).1 _ _ h
      | split at h
  · intro m' ops h
    unfold move at h
    repeat' first
      | (simp at h; done)
      | exact ask_mono'.2 _ _ h
      | exact (ask_mono' (m := { m with rest := { m.rest with slice := none } })).2 _ _ h
      | split at h
theorem step_mono {p : Program} {m m' : Machine} (h : step p m = .next m') : m.world.drawn ≤ m'.world.drawn := by
  unfold step stepT at h
  cases hm : move p m with
  | goroutine m1 i =>
    rw [hm] at h
    exact Nat.le_trans (move_mono.1 _ _ hm) (runT_mono h)
  | machine s ops =>
    rw [hm] at h
    simp only [] at h
    subst h
    exact move_mono.2 _ _ hm
theorem runN_mono {p : Program} : ∀ (n : Nat) {m m' : Machine}, runN p n m = .next m' → m.world.drawn ≤ m'.world.drawn
  | 0, m, m', h => by simp only [runN, Stepped.next.injEq] at h; subst h; exact Nat.le_refl _
  | n + 1, m, m', h => by
    simp only [runN] at h
    cases hs : step p m with
    | next m1 => rw [hs] at h; exact Nat.le_trans (step_mono hs) (runN_mono n h)
    | ended o w => rw [hs] at h; simp at h
/-- behind a call that returned the tape is not behind where it was -/
theorem calls_drawn {P : Program} {f : FuncId} {args : Array Value} {w : World} {R : Ending → World → Prop} (h : Calls P f args w R) :
    Calls P f args w fun e w' => R e w' ∧ ((∃ v, e = .returned v) → w.drawn ≤ w'.drawn) := fun cs => by
  obtain ⟨e, w', fr, hr, hc, hf, hl⟩ := h cs
  refine ⟨e, w', fr, ⟨hr, ?_⟩, hc, hf, hl⟩
  rintro ⟨v, rfl⟩
  obtain ⟨n, hn⟩ := hc
  exact runN_mono n hn
end Go.Lift
