/- A data-level logic for the model: what a body does to data; its soundness (part LiftR). No conditions. -/
import Derived.Test.YtmfgjjnmfahcjaaLiftU
set_option linter.unusedSimpArgs false
set_option linter.unusedVariables false
namespace Go.Lift
open Go

/-! # The body of a function that is handed objects -/
section
variable {P : Program} {tt : TT} {A0 : Nat → Prop} {w0 : Home} {n : Nat} {os : Objs} {s : DS} {a : Act} {w : World} {A : Nat → Prop}

theorem repAll_get : ∀ {vs : List Value} {ds : List DV}, RepAll A os w vs ds → vs.length = ds.length ∧ ∀ (i : Nat) v d, vs[i]? = some v → ds[i]? = some d → RepV A os w v d
  | [], [], _ => ⟨rfl, by simp⟩
  | [], _ :: _, h => h.elim
  | _ :: _, [], h => h.elim
  | v :: vs, d :: ds, h => by
    obtain ⟨h1, h2⟩ := repAll_get h.2
    refine ⟨by simp [h1], fun i v' d' hv hd => ?_⟩
    cases i with
    | zero => simp at hv hd; subst hv; subst hd; exact h.1
    | succ i => exact h2 i v' d' (by simpa using hv) (by simpa using hd)
theorem plainD {x : Value} {d : DV} (h : RepV A os w x d) (hp : plainAll (dcells d) = true) : Imm A w x d := by
  have hm := plainAll_mem hp
  by_cases hd : ∃ cs, d = .agg cs
  · obtain ⟨cs, rfl⟩ := hd
    obtain ⟨vs, rfl, hl, hone, hpp⟩ := h.agg_inv
    exact .agg hl hone (fun i v d hv hd => ((hpp i v d hv hd).plain (hm d (List.mem_of_getElem? hd))).2)
  · have : dcells d = [d] := by cases d <;> first | rfl | exact absurd ⟨_, rfl⟩ hd
    exact (h.plain (hm d (by rw [this]; simp))).2
theorem resP_ok (hT : tabOk P tt = true) (h : Rep A0 w0 n os s a w) : ∀ {rs : List ResultVar} {Q : List DV → Prop}, resP tt s rs Q → ∃ vs ds, Q ds ∧ vs.length = rs.length ∧ vs.length = ds.length ∧ (∀ (i : Nat) v d, vs[i]? = some v → ds[i]? = some d → Imm (avoid A0 os) w v d) ∧
    (List.mapM (m := Sem) (fun r : ResultVar => match r with
      | .tmp t => pure (a.tmps.getD t undef)
      | .cell p t => do loadVar t (← asAddr (a.tmps.getD p undef))) rs).run P w = .ok vs w
  | [], Q, hK => ⟨[], [], hK, rfl, rfl, fun i v d hv _ => by simp at hv, by simp⟩
  | .tmp t :: r, Q, hK => by
    have hK := frc_iff.1 hK
    split at hK
    · rename_i hpl
      have hi := plainD (h.env t) hpl
      obtain ⟨vs, ds, hQ, h1, h2, h3, h4⟩ := resP_ok hT h hK
      refine ⟨a.tmps.getD t undef :: vs, _ :: ds, hQ, by simp [h1], by simp [h2], fun i v d' hv hd => ?_, ?_⟩
      · cases i with
        | zero =>
          simp only [List.getElem?_cons_zero, Option.some.injEq] at hv hd
          subst hv hd; exact hi
        | succ i => exact h3 i v d' (by simpa using hv) (by simpa using hd)
      · rw [List.mapM_cons]
        simp only [Sem.run_bind, Sem.run_pure, Result.andThen_ok, h4]
    · exact hK.elim
  | .cell p ty :: r, Q, hK => by
    unfold resP at hK
    have hp := h.env p
    split at hK
    · rename_i i off e
      rw [e] at hp
      obtain ⟨g, t', cs', hi, hv⟩ := hp.lp_inv
      split at hK
      · rename_i t2 cs hl
        rw [h.loc] at hl
        obtain ⟨x', hi'⟩ := lget_os hl (by simp)
        rw [hi] at hi'
        cases hi'
        split at hK
        · exact hK.elim
        · rename_i hs
          obtain ⟨_, _, _, _, _, _, hcell⟩ := obj_cells h.obj hi
          obtain ⟨_, hK⟩ := dropK_elim hK
          obtain ⟨d, y, hK, hy1, hy2⟩ := load_take (P := P) hT hs (ad := ⟨g, off, none⟩) (fun j d hd => by rw [List.getElem?_drop] at hd; rw [Addr.add_mk]; exact hcell _ d hd) hK
          split at hK
          · rename_i hpl
            have him := plainD hy2 hpl
            obtain ⟨vs, ds, hQ, h1, h2, h3, h4⟩ := resP_ok hT h hK
            refine ⟨y :: vs, d :: ds, hQ, by simp [h1], by simp [h2], fun i v d' hv hd => ?_, ?_⟩
            · cases i with
              | zero =>
                simp only [List.getElem?_cons_zero, Option.some.injEq] at hv hd
                subst hv hd; exact him
              | succ i => exact h3 i v d' (by simpa using hv) (by simpa using hd)
            · rw [List.mapM_cons]
              have e1 : (asAddr (a.tmps.getD p undef)).run P w = .ok ⟨g, off, none⟩ w := by rw [hv]; rfl
              simp only [Sem.run_bind, Sem.run_pure, Result.andThen_ok, e1, hy1, h4]
          · exact hK.elim
      · exact hK.elim
    · exact hK.elim
theorem resM_ok (hT : tabOk P tt = true) {fn : Func} {Q : DV → Prop} (h : Rep A0 w0 n os s a w) (hK : resM tt s fn.results.toList Q) : ∃ v d, Q d ∧ (results fn a.tmps).run P w = .ok v w ∧ RepV (avoid A0 os) os w v d := by
  have fin : ∀ {vs : List Value}, (List.mapM (m := Sem) (fun r : ResultVar => match r with
      | .tmp t => pure (a.tmps.getD t undef)
      | .cell p t => do loadVar t (← asAddr (a.tmps.getD p undef))) fn.results.toList).run P w = .ok vs w → (results fn a.tmps).run P w = .ok (if h : vs.toArray.size = 1 then vs.toArray[0] else .tuple vs.toArray) w := by
    intro vs h4
    unfold results
    rw [Array.mapM_eq_mapM_toList]
    simp only [Sem.run_bind, Sem.run_map, Result.andThen_ok, Sem.run_pure]
    exact congrArg (fun r : Result (List Value) => (r.andThen fun a w' => Result.ok a.toArray w').andThen fun a w' => Result.ok (if h : a.size = 1 then a[0] else .tuple a) w') h4
  have many : resP tt s fn.results.toList (fun l => Q (.tup l)) → fn.results.toList.length ≠ 1 → ∃ v d, Q d ∧ (results fn a.tmps).run P w = .ok v w ∧ RepV (avoid A0 os) os w v d := by
    intro hK hne
    obtain ⟨vs, ds, hQ, h1, h2, h3, h4⟩ := resP_ok hT h hK
    refine ⟨_, _, hQ, fin h4, ?_⟩
    have : ¬ (vs.toArray.size = 1) := by simp; omega
    rw [dif_neg this]
    exact .imm (.tup h2 h3)
  unfold resM at hK
  split at hK
  · rename_i t e
    have hK := frc_iff.1 hK
    refine ⟨_, _, hK, fin (vs := [a.tmps.getD t undef]) (by rw [e]; simp), ?_⟩
    simpa using h.env t
  · rename_i p ty e
    have hp := h.env p
    split at hK
    · rename_i i off e2
      rw [e2] at hp
      obtain ⟨g, t', cs', hi, hv⟩ := hp.lp_inv
      split at hK
      · rename_i t2 cs hl
        rw [h.loc] at hl
        obtain ⟨x', hi'⟩ := lget_os hl (by simp)
        rw [hi] at hi'
        cases hi'
        split at hK
        · exact hK.elim
        · rename_i hs
          obtain ⟨_, _, _, _, _, _, hcell⟩ := obj_cells h.obj hi
          obtain ⟨_, hK⟩ := dropK_elim hK
          obtain ⟨d, y, hK, hy1, hy2⟩ := load_take (P := P) hT hs (ad := ⟨g, off, none⟩) (fun j d hd => by rw [List.getElem?_drop] at hd; rw [Addr.add_mk]; exact hcell _ d hd) hK
          refine ⟨y, d, hK, ?_, hy2⟩
          have := fin (vs := [y]) (by
            rw [e]
            have e1 : (asAddr (a.tmps.getD p undef)).run P w = .ok ⟨g, off, none⟩ w := by rw [hv]; rfl
            simp only [List.mapM_cons, List.mapM_nil, Sem.run_bind, Sem.run_pure, Result.andThen_ok, e1, hy1])
          simpa using this
      · exact hK.elim
    · exact hK.elim
  · rename_i h1 h2
    refine many hK (fun hl => ?_)
    cases hr : fn.results.toList with
    | nil => rw [hr] at hl; simp at hl
    | cons r rs =>
      cases rs with
      | nil => cases r with
        | tmp t => exact h1 t hr
        | cell p t => exact h2 p t hr
      | cons r2 rs => rw [hr] at hl; simp at hl

theorem hdls_len : ∀ (L : List LObj) (k : Nat), (hdls k L).length = L.length
  | [], k => rfl
  | o :: r, k => by rw [hdls, List.length_cons, hdls_len r]; rfl
theorem hdls_get : ∀ (L : List LObj) (b i : Nat) (d : DV), (hdls b L)[i]? = some d → ∃ o, L[i]? = some o ∧ d = hdl (b + i) o
  | [], b, i, d, h => by simp [hdls] at h
  | o :: r, b, 0, d, h => by simp [hdls] at h; exact ⟨o, rfl, by simpa using h.symm⟩
  | o :: r, b, i + 1, d, h => by
    rw [hdls] at h
    obtain ⟨o', h1, h2⟩ := hdls_get r (b + 1) i d (by simpa using h)
    exact ⟨o', by simpa using h1, by rw [h2, Nat.add_assoc, Nat.add_comm 1 i]⟩
theorem keptG_get : ∀ (ks : List Bool) (L' : List LObj) (b i : Nat) (o : LObj), ks[i]? = some true → L'[i]? = some o → (keptG b ks L')[i]? = some (hdl (b + i) o)
  | [], L', b, i, o, h, _ => by simp at h
  | k :: ks, [], b, i, o, _, h => by simp at h
  | k :: ks, o1 :: L', b, 0, o, h1, h2 => by
    simp at h1 h2
    subst h1; subst h2
    rfl
  | k :: ks, o1 :: L', b, i + 1, o, h1, h2 => by
    have := keptG_get ks L' (b + 1) i o (by simpa using h1) (by simpa using h2)
    cases k <;> · rw [keptG]; simpa [Nat.add_assoc, Nat.add_comm 1 i] using this
def hdr (p : Value × LObj) : Value :=
  match p.2 with
  | .row .. => p.1
  | .cells .. => p.1
  | _ => .nilFunc
theorem deadAt_get : ∀ {m : Nat} {l : List LObj} {o : LObj}, deadAt m l = true → l[m]? = some o → o = .dead
  | m, [], o, _, h => by simp at h
  | 0, x :: r, o, hd, h => by
    simp at h
    subst h
    cases x <;> simp [deadAt] at hd
    rfl
  | m + 1, x :: r, o, hd, h => deadAt_get (m := m) (l := r) (by simpa [deadAt] using hd) (by simpa using h)

theorem ObjOk.home {B B' : Home} {x : Value} {o : LObj} (h : ObjOk A os B w x o) (hg : ∀ ds, o ≠ .gh ds) (hm : ∀ b, o ≠ .dead → blk x = some b → B'.mine b) : ObjOk A os B' w x o := by
  cases o with
  | dead => exact trivial
  | gone => exact h
  | gh ds => exact absurd rfl (hg ds)
  | cells t cs =>
    obtain ⟨g, arr, rfl, hB, rest⟩ := h
    exact ⟨g, arr, rfl, hm g (by simp) rfl, rest⟩
  | row e sz es => exact ⟨fun b hb => hm b (by simp) hb, h.2⟩

/-- what a call makes and hands back, read as data -/
theorem ret_of_retM {f : FuncId} {args : List DV} {L' : List LObj} {d d' : DV} (h : RetM P f [] args [] L' d) (hl : lend L' d (fun x => dle x d')) : Ret P f args d' := by
  refine ⟨h.1, fun A w vals hA hvals => ?_⟩
  have hlaid : Laid A [] [] w := ⟨rfl, fun i x o hi => by simp at hi, fun i j x o y o' b hi => by simp at hi, fun b _ ⟨i, x, o, hi, _⟩ => by simp at hi⟩
  have hall : RepAll (avoid A []) [] w vals args := by
    have gen : ∀ (vs : List Value) (ds : List DV), ImmAll A w vs ds → RepAll (avoid A []) [] w vs ds := by
      intro vs
      induction vs with
      | nil => intro ds h; cases ds <;> first | trivial | exact h.elim
      | cons v vs ih =>
        intro ds h
        cases ds with
        | nil => exact h.elim
        | cons d ds => exact ⟨.imm (h.1.keep (Keeps.less (fun b hb => by
            rcases hb with hb | ⟨i, x, o, hi, _⟩
            · exact hb
            · simp at hi))), ih ds h.2⟩
    exact gen _ _ hvals
  refine (h.2 A w [] vals hA hlaid hall).mono fun e w' he => ?_
  obtain ⟨v, os', rfl, hlaid', hrv, hgr, hblk, _⟩ := he
  have hno : ∀ b, ¬ ofOs [] b := fun b ⟨i, x, o, hi, _⟩ => by simp at hi
  have hnew : ∀ b, ofOs os' b → w.heap.size ≤ b := fun b hb => (hblk b hb).resolve_left (hno b)
  have hgrown : w.grownBy w' none := ⟨hgr.os, hgr.tape, hgr.output, hgr.size, fun k hk _ => hgr.block k hk (hno k)⟩
  have hrep : Rep A ⟨w, fun _ => False, []⟩ 0 os' ⟨[], L'⟩ { tmps := #[], defers := [] } w' := by
    refine ⟨rfl, rfl, ⟨hgr.os, hgr.tape, hgr.output, hgr.size, fun k hk _ => hgr.block k hk (hno k)⟩, fun b hb hm => ?_, hlaid'.loc.symm, fun t => .imm .junk, fun i x o hi => ?_, hlaid'.inj⟩
    · rcases hm with hm | hm
      · have h1 := hA b hb
        have hm : w.heap.size ≤ b := hm
        omega
      · exact hm
    · have hob := hlaid'.obj i x o hi
      cases o with
      | dead => exact trivial
      | gone => exact hob
      | gh ds => exact hob
      | cells t cs =>
        obtain ⟨g, arr, rfl, hB, rest⟩ := hob
        exact ⟨g, arr, rfl, .inl (hnew g ⟨i, _, _, hi, by simp, rfl⟩), rest⟩
      | row e sz es => exact ⟨fun b hb => .inl (hnew b ⟨i, _, _, hi, by simp, hb⟩), hob.2⟩
  obtain ⟨x, hx, him⟩ := lend_imm (s := ⟨[], L'⟩) hrep hrv hl
  exact ⟨v, rfl, him.le hx, hgrown⟩
theorem retM_of_body (hm : P.follows .mixedOrders = true) (hT : tabOk P tt = true) (h0 : (tinfo tt 0).size = 0) {f : FuncId} {fn : Func} {c : Code} {L L' : List LObj} {args : List DV} {kept : List Bool} {d : DV} (hf : P.funcs[f]? = some fn) (hname : (fn.name == "runtime.NumGoroutine") = false) (hb : fn.body = some c)
    (hfit : codeFits fn.ntmps c = true) (hn : Nat.ble args.length fn.ntmps = true) (hL : noGh L = true) (h : dbodyM tt P c fn.results.toList L args kept L' d) : RetM P f L args kept L' d := by
  have hn := Nat.le_of_ble_eq_true hn
  refine ⟨fun vs w => ?_, fun A w os vals hA hlaid hvals => ?_⟩
  · simp only [callFunc, Sem.run_bind, run_program, Result.andThen_ok, hf, hname, hb, Option.isNone_some]
    rfl
  · obtain ⟨hlen, hvals⟩ := repAll_get hvals
    have hol : os.length = L.length := by rw [← hlaid.loc]; simp
    have hloc : ∀ {i : Nat} {x : Value} {o : LObj}, os[i]? = some (x, o) → L[i]? = some o := by
      intro i x o hi
      rw [← hlaid.loc, List.getElem?_map, hi]
      rfl
    let gh : Objs := match L with
      | [] => []
      | _ => [(.tuple (os.map hdr).toArray, .gh (hdls 0 L))]
    have hghl : gh.map (·.2) = ghOf L := by simp only [gh, ghOf]; cases L <;> rfl
    have hghb : ∀ p ∈ gh, blk p.1 = none := by
      intro p hp
      simp only [gh] at hp
      split at hp
      · simp at hp
      · simp at hp; subst hp; rfl
    have hget1 : ∀ {i : Nat} {x : Value} {o : LObj}, (os ++ gh)[i]? = some (x, o) → os[i]? = some (x, o) ∨ (os.length ≤ i ∧ gh[i - os.length]? = some (x, o) ∧ blk x = none) := by
      intro i x o hi
      by_cases hlt : i < os.length
      · rw [List.getElem?_append_left hlt] at hi; exact .inl hi
      · rw [List.getElem?_append_right (by omega)] at hi
        exact .inr ⟨by omega, hi, hghb _ (List.mem_of_getElem? hi)⟩
    have hof1 : ∀ b, ofOs (os ++ gh) b → ofOs os b := by
      rintro b ⟨i, x, o, hi, hd, hbb⟩
      rcases hget1 hi with hi | ⟨_, _, h2⟩
      · exact ⟨i, x, o, hi, hd, hbb⟩
      · rw [h2] at hbb; cases hbb
    have hal : Alike os (os ++ gh) := fun i x o hi => ⟨o, by rw [List.getElem?_append_left (List.getElem?_eq_some_iff.1 hi).1]; exact hi, by cases o <;> simp [kindIs]⟩
    have hkp : Keeps (avoid A os) (avoid A (os ++ gh)) w w := Keeps.less (by
      rintro b (hb | hb)
      · exact .inl hb
      · exact .inr (hof1 b hb))
    have hmine : ∀ b, ofOs os b → Home.mine ⟨w, ofOs os, os.map hdr⟩ b := fun b hb => .inr hb
    have hrep : Rep A ⟨w, ofOs os, os.map hdr⟩ fn.ntmps (os ++ gh) ⟨enum 0 args, L ++ ghOf L⟩ { tmps := vals.toArray ++ Array.replicate (fn.ntmps - vals.toArray.size) undef, defers := [] } w := by
      refine ⟨by simp; omega, rfl, ⟨rfl, rfl, rfl, Nat.le_refl _, fun _ _ _ => rfl⟩, fun b hb hmn => ?_, by rw [List.map_append, hlaid.loc, hghl], fun t => ?_, fun i x o hi => ?_, fun i j x o y o' b hi hj d1 d2 b1 b2 => ?_⟩
      · rcases hmn with h1 | h1
        · have h2 := hA b hb
          have h1 : w.heap.size ≤ b := h1
          omega
        · exact hlaid.out b hb h1
      · rw [look_enum, if_pos (Nat.zero_le _), Nat.sub_zero]
        cases hd : args[t]? with
        | none => exact .imm .junk
        | some d =>
          have hlt := (List.getElem?_eq_some_iff.1 hd).1
          have hv := List.getElem?_eq_getElem (l := vals) (i := t) (by omega)
          have hi := hvals t _ d hv hd
          have : (vals.toArray ++ Array.replicate (fn.ntmps - vals.toArray.size) undef).getD t undef = vals[t]'(by omega) := by
            rw [Array.getD_eq_getD_getElem?, Array.getElem?_append_left (by simp; omega)]
            simp [hv]
          simp only [Option.getD_some]
          rw [this]
          exact hi.keep hkp hal
      · rcases hget1 hi with hi | ⟨hge, hgi, hbn⟩
        · have hob := (hlaid.obj i x o hi).home (B' := ⟨w, ofOs os, os.map hdr⟩) (noGh_get hL (hloc hi)) (fun b hd hbb => hmine b ⟨i, x, o, hi, hd, hbb⟩)
          exact hob.keep hkp hal (fun _ _ _ => rfl)
        · simp only [gh] at hgi
          split at hgi
          · simp at hgi
          · rename_i hLne
            have h00 : i - os.length = 0 := by
              have := (List.getElem?_eq_some_iff.1 hgi).1
              simpa using this
            rw [h00] at hgi
            simp at hgi
            obtain ⟨rfl, rfl⟩ := hgi
            have gget : ∀ (q : Nat) v e, (os.map hdr)[q]? = some v → (hdls 0 L)[q]? = some e → ∃ x o, os[q]? = some (x, o) ∧ v = hdr (x, o) ∧ e = hdl q o := by
              intro q v e hv he
              obtain ⟨o, h1, h2⟩ := hdls_get L 0 q e he
              rw [List.getElem?_map] at hv
              cases hq : os[q]? with
              | none => rw [hq] at hv; cases hv
              | some p =>
                obtain ⟨x, o2⟩ := p
                have := hloc hq
                rw [h1] at this
                cases this
                rw [hq] at hv
                cases hv
                exact ⟨x, o, rfl, rfl, by rw [h2, Nat.zero_add]⟩
            have one : ∀ (q : Nat) x o, os[q]? = some (x, o) → (hdr (x, o)).oneCell' = true ∧ RepV (avoid A (os ++ gh)) (os ++ gh) w (hdr (x, o)) (hdl q o) := by
              intro q x o hq
              have hq' : (os ++ gh)[q]? = some (x, o) := by rw [List.getElem?_append_left (List.getElem?_eq_some_iff.1 hq).1]; exact hq
              have hob := hlaid.obj q x o hq
              cases o with
              | row e sz es =>
                obtain ⟨xs, hown, _⟩ := obj_row hob
                exact ⟨own_one hown, .own hq' (own_one hown)⟩
              | cells t cs =>
                obtain ⟨g, arr, rfl, _⟩ := hob
                exact ⟨rfl, .lp hq'⟩
              | dead => exact ⟨rfl, .imm .junk⟩
              | gone => exact ⟨rfl, .imm .junk⟩
              | gh ds => exact ⟨rfl, .imm .junk⟩
            refine ⟨rfl, by rw [hdls_len, List.length_map, hol], fun v hv => ?_, fun q v e hv he => ?_⟩
            · obtain ⟨p, hp, rfl⟩ := List.mem_map.1 hv
              obtain ⟨q, hq, rfl⟩ := List.getElem_of_mem hp
              exact (one q _ _ (List.getElem?_eq_getElem hq)).1
            · obtain ⟨x, o, h1, h2, h3⟩ := gget q v e hv he
              subst h2; subst h3
              exact (one q x o h1).2
      · rcases hget1 hi with hi | ⟨_, _, hb1⟩
        · rcases hget1 hj with hj | ⟨_, _, hb2⟩
          · exact hlaid.inj i j x o y o' b hi hj d1 d2 b1 b2
          · rw [hb2] at b2; cases b2
        · rw [hb1] at b1; cases b1
    have done : ∀ (a2 : Act) (w2 : World) (osF : Objs) (sF : DS), Rep A ⟨w, ofOs os, os.map hdr⟩ fn.ntmps osF sF a2 w2 → dpostM tt fn.results.toList L kept L' d sF →
        ∃ v, (results fn a2.tmps).run P w2 = .ok v w2 ∧ ∃ os', Laid A os' L' w2 ∧ RepV (avoid A os') os' w2 v d ∧ Grown (ofOs os) w w2 ∧ (∀ b, ofOs os' b → ofOs os b ∨ w.heap.size ≤ b) ∧ ∀ (i : Nat) x o, kept[i]? = some true → os[i]? = some (x, o) → ∃ o', os'[i]? = some (x, o') := by
      intro a2 w2 osF sF hr hK
      obtain ⟨v, x, ⟨hdx, hle, hck⟩, hrun, hrv⟩ := resM_ok hT hr hK
      simp only [Bool.and_eq_true] at hck
      obtain ⟨⟨⟨⟨⟨hkept, hgh'⟩, hdead⟩, hbd⟩, hbL'⟩, hbF⟩ := hck
      obtain ⟨hks, hLL, _⟩ := keptOk_get (k := 0) hkept
      refine ⟨v, hrun, ?_⟩
      have hfd := hrv.less hdx
      obtain ⟨os2, hr2, hh2, ht2, ha2⟩ := (show Rep A ⟨w, ofOs os, os.map hdr⟩ fn.ntmps osF ⟨[], sF.loc⟩ a2 w2 from ⟨hr.size, hr.defers, hr.gr, hr.a0, hr.loc, fun _ => .imm .junk, hr.obj, hr.inj⟩).le' (t := ⟨[], finL L kept L'⟩) ⟨trivial, hle, by simpa [bndE] using hbF⟩
      have hfin : ∀ {i : Nat} {o : LObj}, (finL L kept L')[i]? = some o → ¬ (L ≠ [] ∧ i = L.length) → L'[i]? = some o := by
        intro i o hi hne
        unfold finL at hi
        split at hi
        · exact hi
        · rename_i hLne
          have hLL' := hLL
          by_cases hlt : i < L.length
          · rw [List.getElem?_append_left (by simp; omega), List.getElem?_take, if_pos hlt] at hi
            exact hi
          · have hgt : L.length < i := by
              rcases Nat.lt_or_ge L.length i with h1 | h1
              · exact h1
              · exact absurd ⟨fun e => hLne e, by omega⟩ hne
            rw [List.getElem?_append_right (by simp; omega)] at hi
            have e1 : (L'.take L.length).length = L.length := by simp; omega
            rw [e1] at hi
            obtain ⟨q, rfl⟩ : ∃ q, i = L.length + (q + 1) := ⟨i - L.length - 1, by omega⟩
            rw [show L.length + (q + 1) - L.length = q + 1 by omega] at hi
            simp only [List.getElem?_cons_succ, List.getElem?_drop] at hi
            rw [← hi]
            congr 1
            omega
      have hle3 : LocLe (finL L kept L') L' := by
        have gen : ∀ (X : List LObj) (Y : List LObj), Y.length ≤ X.length → (∀ (i : Nat) o o', X[i]? = some o → Y[i]? = some o' → ole o o') → LocLe X Y := by
          intro X
          induction X with
          | nil => intro Y hl _; cases Y <;> first | trivial | simp at hl
          | cons x X ih =>
            intro Y hl hp
            cases Y with
            | nil => trivial
            | cons y Y => exact ⟨hp 0 x y rfl rfl, ih Y (by simpa using hl) (fun i o o' h1 h2 => hp (i + 1) o o' (by simpa using h1) (by simpa using h2))⟩
        refine gen _ _ ?_ (fun i o o' h1 h2 => ?_)
        · unfold finL
          split
          · exact Nat.le_refl _
          · simp; omega
        · by_cases hne : L ≠ [] ∧ i = L.length
          · have : o' = .dead := by
              obtain ⟨hne, rfl⟩ := hne
              unfold deadM at hdead
              split at hdead
              · exact absurd rfl hne
              · exact deadAt_get hdead h2
            rw [this]
            exact .dead
          · have := hfin h1 hne
            rw [h2] at this
            cases this
            exact .refl
      obtain ⟨os3, hr3, hh3, ht3, ha3⟩ := hr2.le' (t := ⟨[], L'⟩) ⟨trivial, hle3, by simpa [bndE] using hbL'⟩
      have hmap3 : os3.map (·.2) = L' := hr3.loc.symm
      have hmine3 : ∀ b, ofOs os3 b → Home.mine ⟨w, ofOs os, os.map hdr⟩ b := fun b ⟨i, y, o, hi, hd, hbb⟩ => ((hr3.obj i y o hi).blk_ge hd hbb).1
      refine ⟨os3, ⟨hmap3, fun i y o hi => ?_, hr3.inj, fun b hb hof => hr3.a0 b hb (hmine3 b hof)⟩, ?_, hr3.gr, fun b hb => (hmine3 b hb).symm, fun i y o hk hi => ?_⟩
      · refine (hr3.obj i y o hi).home (fun ds e => ?_) (fun _ _ _ => .inr trivial)
        subst e
        have : L'[i]? = some (.gh ds) := by rw [← hmap3, List.getElem?_map, hi]; rfl
        exact noGh_get hgh' this ds rfl
      · by_cases htup : ∃ ds, d = .tup ds
        · obtain ⟨ds, rfl⟩ := htup
          exact .imm (hfd.tup_inv.keep (Keeps.less (fun b hb => ha2 b (ha3 b hb))))
        · have hbd : bnd L' d = true := by
            cases d <;> first | exact hbd | exact absurd ⟨_, rfl⟩ htup
          have hb2 : bnd (finL L kept L') d = true := by
            have up : ∀ {j : Nat}, (isRow (lget L' j) = true → isRow (lget (finL L kept L') j) = true) ∧ (isCells (lget L' j) = true → isCells (lget (finL L kept L') j) = true) := by
              intro j
              have key : lget L' j ≠ .dead → lget (finL L kept L') j = lget L' j := by
                intro hnd
                have hj : j < L'.length := by
                  rcases Nat.lt_or_ge j L'.length with h1 | h1
                  · exact h1
                  · exact absurd (by rw [lget_eq, List.getElem?_eq_none h1]; rfl) hnd
                have hj2 : j < (finL L kept L').length := by
                  unfold finL
                  split
                  · exact hj
                  · simp; omega
                have hg := List.getElem?_eq_getElem hj2
                have hne : ¬ (L ≠ [] ∧ j = L.length) := by
                  rintro ⟨hne, rfl⟩
                  unfold deadM at hdead
                  split at hdead
                  · exact hne rfl
                  · have := deadAt_get hdead (List.getElem?_eq_getElem hj)
                    exact hnd (by rw [lget_eq, List.getElem?_eq_getElem hj, this]; rfl)
                have := hfin hg hne
                rw [lget_eq, lget_eq, this, hg]
              constructor
              · intro hq
                rw [key (fun e => by rw [e] at hq; simp [isRow] at hq)]
                exact hq
              · intro hq
                rw [key (fun e => by rw [e] at hq; simp [isCells] at hq)]
                exact hq
            have up0 : ∀ e : DV, bnd0 L' e = true → bnd0 (finL L kept L') e = true := by
              intro e he
              cases e with
              | own j => exact up.1 he
              | rp j k o => exact up.1 he
              | lp j o => exact up.2 he
              | ap j o => exact up.2 he
              | fn g caps =>
                simp only [bnd0, List.all_eq_true] at he ⊢
                intro c hc
                have := he c hc
                cases c <;> first | exact up.2 this | rfl
              | _ => exact he
            by_cases hagg : ∃ cs, d = .agg cs
            · obtain ⟨cs, rfl⟩ := hagg
              simp only [bnd, List.all_eq_true] at hbd ⊢
              exact fun e he => up0 e (hbd e he)
            · have e1 : ∀ l, bnd l d = bnd0 l d := by intro l; cases d <;> first | rfl | exact absurd ⟨_, rfl⟩ hagg
              rw [e1] at hbd ⊢
              exact up0 d hbd
          exact ht3 v d (ht2 v d hfd hb2) hbd
      · have hLne : L ≠ [] := by
          intro e
          rw [e] at hol
          have := (List.getElem?_eq_some_iff.1 hi).1
          simp at hol
          rw [hol] at this
          simp at this
        have hil : i < L.length := by have := (List.getElem?_eq_some_iff.1 hi).1; omega
        have hL'i := List.getElem?_eq_getElem (l := L') (i := i) (by omega)
        have hkg := keptG_get kept L' 0 i _ hk hL'i
        rw [Nat.zero_add] at hkg
        have hsk := (keptOk_get (k := i) hkept).2.2 o _ hk (hloc hi) hL'i
        have hgl : (finL L kept L')[L.length]? = some (.gh (keptG 0 kept L')) := by
          unfold finL
          split
          · exact absurd rfl hLne
          · have e1 : (L'.take L.length).length = L.length := by simp; omega
            rw [List.getElem?_append_right (by omega), e1, Nat.sub_self]
            rfl
        have hg2 : ∃ y, os2[L.length]? = some (y, .gh (keptG 0 kept L')) := by
          have hloc2 : finL L kept L' = os2.map (·.2) := hr2.loc
          rw [hloc2, List.getElem?_map] at hgl
          cases hq : os2[L.length]? with
          | none => rw [hq] at hgl; cases hgl
          | some p =>
            obtain ⟨y, ob⟩ := p
            rw [hq] at hgl
            simp at hgl
            exact ⟨y, by rw [hgl]⟩
        obtain ⟨y2, hg2⟩ := hg2
        obtain ⟨_, _, _, hgr2⟩ := hr2.obj _ _ _ hg2
        have hhd : (os.map hdr)[i]? = some (hdr (y, o)) := by rw [List.getElem?_map, hi]; rfl
        have hrep2 := hgr2 i _ _ hhd hkg
        have hnei : ¬ (L ≠ [] ∧ i = L.length) := by rintro ⟨_, e⟩; omega
        have h2i : ∃ z, os2[i]? = some (z, L'[i]'(by omega)) := by
          have hloc2 : finL L kept L' = os2.map (·.2) := hr2.loc
          have hfi : (finL L kept L')[i]? = some (L'[i]'(by omega)) := by
            have hj2 : i < (finL L kept L').length := by
              unfold finL
              split
              · exact absurd rfl hLne
              · simp; omega
            have hg := List.getElem?_eq_getElem hj2
            have := hfin hg hnei
            rw [hL'i] at this
            rw [hg, ← this]
          rw [hloc2, List.getElem?_map] at hfi
          cases hq : os2[i]? with
          | none => rw [hq] at hfi; cases hfi
          | some p => rw [hq] at hfi; simp at hfi; exact ⟨p.1, by rw [← hfi]⟩
        obtain ⟨z, h2i⟩ := h2i
        have hz : z = y := by
          generalize hob : (L'[i]'(by omega)) = ob at *
          cases o <;> cases ob <;> simp [sameKind] at hsk
          · simp only [hdl] at hrep2
            obtain ⟨g, t', cs', h5, h6⟩ := hrep2.lp_inv
            rw [h2i] at h5
            cases h5
            exact h6.symm
          · simp only [hdl] at hrep2
            exact (hrep2.own_row h2i).symm
        subst hz
        have h3i : i < os3.length := by
          have : os3.length = L'.length := by rw [← hmap3]; simp
          omega
        have h3g := List.getElem?_eq_getElem h3i
        obtain ⟨o4, h4, _⟩ := hh3 i _ _ (show os3[i]? = some (os3[i].1, os3[i].2) from h3g)
        rw [h2i] at h4
        cases h4
        exact ⟨_, h3g⟩
    refine calls_of_wp hf hb (dcode_ok (A0 := A) (w0 := ⟨w, ofOs os, os.map hdr⟩) (n := fn.ntmps) hm hT h0 c hfit (fun e a w' hN => ?_) hrep h)
    obtain ⟨osF, sF, hr, hK⟩ := hN
    cases e with
    | normal =>
      obtain ⟨v, hv, os', h1, h2, h3, h4, h5⟩ := done _ _ _ _ hr hK
      exact ⟨hr.defers, v, hv, v, os', rfl, h1, h2, h3, h4, h5⟩
    | ret =>
      obtain ⟨v, hv, os', h1, h2, h3, h4, h5⟩ := done _ _ _ _ hr hK
      exact ⟨hr.defers, v, hv, v, os', rfl, h1, h2, h3, h4, h5⟩
    | _ => exact hK.elim
end
end Go.Lift
