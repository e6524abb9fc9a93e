/- A data-level logic for the model: what a body does to data; its soundness (part LiftH3). No conditions. -/
import Derived.Test.YtmfgjjnmfahcjaaLiftH2
set_option linter.unusedSimpArgs false
set_option linter.unusedVariables false
namespace Go.Lift
open Go

/-! # Calls that are handed objects: the state behind the call -/
section
variable {P : Program} {tt : TT} {A0 : Nat → Prop} {w0 : Home} {n : Nat} {os : Objs} {s : DS} {a : Act} {w : World} {o : Oper} {K : DS → Prop} {A : Nat → Prop}

theorem ole_mvO_dead {o ob : LObj} {ρ : Nat → Nat} (h : ole o (mvO ρ ob)) (hd : ob ≠ .dead) (hg : ∀ ds, ob ≠ .gh ds) : o ≠ .dead := by
  cases ob with
  | dead => exact absurd rfl hd
  | gh ds => exact absurd rfl (hg ds)
  | gone => cases h; simp [mvO]
  | row e sz es => rw [ole_row' h]; simp
  | cells t cs => obtain ⟨_, rfl, _⟩ := ole_cells' h; simp
theorem noGh_get : ∀ {L : List LObj} {k : Nat} {o : LObj}, noGh L = true → L[k]? = some o → ∀ ds, o ≠ .gh ds
  | [], k, o, _, h, _ => by simp at h
  | x :: r, 0, o, hn, h, ds => by
    simp at h
    subst h
    intro e
    subst e
    simp [noGh] at hn
  | x :: r, k + 1, o, hn, h, ds => by
    have : noGh r = true := by cases x <;> simp [noGh] at hn <;> exact hn
    exact noGh_get (k := k) this (by simpa using h) ds
theorem keptOk_get : ∀ {ks : List Bool} {L L' : List LObj} {k : Nat}, keptOk ks L L' = true → ks.length = L.length ∧ L.length ≤ L'.length ∧ (∀ o o', ks[k]? = some true → L[k]? = some o → L'[k]? = some o' → sameKind o o' = true)
  | [], [], L', k, _ => ⟨rfl, by simp, fun o o' h => by simp at h⟩
  | [], _ :: _, L', k, h => by simp [keptOk] at h
  | _ :: _, [], L', k, h => by simp [keptOk] at h
  | _ :: _, _ :: _, [], k, h => by simp [keptOk] at h
  | b :: ks, o1 :: L, o2 :: L', k, h => by
    simp only [keptOk, Bool.and_eq_true] at h
    obtain ⟨i1, i2, i3⟩ := keptOk_get (k := k - 1) h.2
    refine ⟨by simp [i1], by simp; omega, fun o o' h1 h2 h3 => ?_⟩
    cases k with
    | zero =>
      simp at h1 h2 h3
      subst h1; subst h2; subst h3
      simpa using h.1
    | succ k => exact i3 o o' (by simpa using h1) (by simpa using h2) (by simpa using h3)
theorem objsM_get {loc : List LObj} {ρ : Nat → Nat} : ∀ {pass : List Nat} {L : List LObj}, objsM loc ρ pass L → pass.length = L.length ∧ ∀ (k i : Nat) o, pass[k]? = some i → L[k]? = some o → ole (lget loc i) (mvO ρ o)
  | [], [], _ => ⟨rfl, fun k i o h => by simp at h⟩
  | [], _ :: _, h => h.elim
  | _ :: _, [], h => h.elim
  | i :: r, o :: r', h => by
    obtain ⟨h1, h2⟩ := objsM_get h.2
    refine ⟨by simp [h1], fun k i' o' hi ho => ?_⟩
    cases k with
    | zero => simp at hi ho; subst hi; subst ho; exact h.1
    | succ k => exact h2 k i' o' (by simpa using hi) (by simpa using ho)
theorem notKept_mem : ∀ {pass : List Nat} {ks : List Bool} {k i : Nat}, ks.length = pass.length → pass[k]? = some i → ks[k]? ≠ some true → i ∈ notKept pass ks
  | [], ks, k, i, _, h, _ => by simp at h
  | p :: r, [], k, i, hl, _, _ => by simp at hl
  | p :: r, b :: ks, 0, i, hl, h, hk => by
    simp at h hk
    subst h
    cases b <;> simp at hk
    simp [notKept]
  | p :: r, b :: ks, k + 1, i, hl, h, hk => by
    have := notKept_mem (k := k) (ks := ks) (pass := r) (by simpa using hl) (by simpa using h) (by simpa using hk)
    cases b
    · simp [notKept, this]
    · simpa [notKept] using this
theorem notKept_sub : ∀ {pass : List Nat} {ks : List Bool} {i : Nat}, i ∈ notKept pass ks → i ∈ pass
  | [], ks, i, h => by cases ks <;> simp [notKept] at h
  | p :: r, [], i, h => by simpa [notKept] using h
  | p :: r, b :: ks, i, h => by
    cases b
    · simp only [notKept, List.mem_cons] at h
      rcases h with rfl | h
      · simp
      · exact List.mem_cons_of_mem _ (notKept_sub h)
    · simp only [notKept] at h
      exact List.mem_cons_of_mem _ (notKept_sub h)
theorem voidE_look {J : List Nat} {e : List (Nat × DV)} (t : Nat) : look (voidE J e) t = if J = [] then look e t else jkT J (look e t) := by
  unfold voidE
  split
  · simp
  · rename_i h
    rw [if_neg (fun e => h e), look_mapE _ rfl]
theorem setAll_len : ∀ (tgt : List Nat) (l L : List LObj), (setAll l tgt L).length = l.length
  | [], l, L => by cases L <;> rfl
  | i :: r, l, [] => rfl
  | i :: r, l, o :: L => by rw [setAll, setAll_len r, lset_eq]; simp
theorem setAll_oth : ∀ (tgt : List Nat) (l L : List LObj) (i : Nat), i ∉ tgt → (setAll l tgt L)[i]? = l[i]?
  | [], l, L, i, _ => by cases L <;> rfl
  | j :: r, l, [], i, _ => rfl
  | j :: r, l, o :: L, i, h => by
    simp only [List.mem_cons, not_or] at h
    rw [setAll, setAll_oth r _ _ _ h.2, lset_eq, List.getElem?_set_ne (fun e => h.1 e.symm)]
theorem setAll_get : ∀ (tgt : List Nat) (l L : List LObj) (k : Nat), tgt.Nodup → tgt.length = L.length → (∀ i ∈ tgt, i < l.length) → k < tgt.length → (setAll l tgt L)[nth tgt k]? = L[k]?
  | [], l, L, k, _, _, _, h => by simp at h
  | j :: r, l, [], k, _, h, _, _ => by simp at h
  | j :: r, l, o :: L, k, hn, hl, hi, hk => by
    obtain ⟨h1, h2⟩ := List.nodup_cons.1 hn
    cases k with
    | zero =>
      rw [setAll]
      show (setAll (lset l j o) r L)[j]? = _
      rw [setAll_oth r _ _ _ h1, lset_eq, List.getElem?_set_self (hi j (by simp))]
      rfl
    | succ k =>
      rw [setAll]
      show (setAll (lset l j o) r L)[nth r k]? = _
      rw [setAll_get r _ L k h2 (by simpa using hl) (fun i hm => by rw [lset_eq]; simpa using hi i (by simp [hm])) (by simpa using hk)]
      rfl
theorem jk0_nil : ∀ d : DV, jk0 [] d = d
  | .wh b d => by simp only [jk0]; rw [jk0_nil d]
  | .fn f caps => by
    have : caps.any (jkC []) = false := by
      rw [List.any_eq_false]
      intro c _
      cases c <;> simp [jkC]
    simp only [jk0, this]
  | .own _ | .lp _ _ | .ap _ _ | .rp _ _ _ => by simp [jk0]
  | .v _ | .lst _ _ _ | .agg _ | .tup _ | .ip _ | .nl | .junk => rfl
theorem jkT_nil : ∀ d : DV, jkT [] d = d
  | .wh b d => by simp only [jkT]; rw [jkT_nil d]
  | .agg cs => by
    simp only [jkT]
    congr 1
    conv => rhs; rw [← List.map_id cs]
    exact List.map_congr_left (fun c _ => jk0_nil c)
  | .fn f caps => jk0_nil _
  | .own _ | .lp _ _ | .ap _ _ | .rp _ _ _ => jk0_nil _
  | .v _ | .lst _ _ _ | .tup _ | .ip _ | .nl | .junk => rfl
theorem jk_nil {d : DV} : jk0 [] d = d ∧ jkT [] d = d := ⟨jk0_nil d, jkT_nil d⟩
theorem voidL_get {J : List Nat} {l : List LObj} {i : Nat} : (voidL J l)[i]? = (l[i]?).map (mapO (jk0 J)) := by
  unfold voidL
  split
  · have : (mapO (jk0 [])) = id := by
      funext o
      cases o with
      | cells t cs =>
        have : cs.map (jk0 []) = cs := by
          conv => rhs; rw [← List.map_id cs]
          exact List.map_congr_left (fun c _ => jk_nil.1)
        simp [mapO, this]
      | gh cs =>
        have : cs.map (jk0 []) = cs := by
          conv => rhs; rw [← List.map_id cs]
          exact List.map_congr_left (fun c _ => jk_nil.1)
        simp [mapO, this]
      | _ => rfl
    rw [this]
    simp
  · rw [mapL_eq, List.getElem?_map]

/-- the caller's state, where the callee's objects stand at 'tgt' -/
theorem callM_core {f : FuncId} {pass news : List Nat} {L L' : List LObj} {args0 : List DV} {kept : List Bool} {d : DV} {vals : List Value} (h : Rep A0 w0 n os s a w) (hret : RetM P f L args0 kept L' d)
    (hkept : keptOk kept L L' = true) (hgh : noGh L = true) (hnd : (pass ++ news).Nodup) (hlt : ∀ i ∈ pass, i < os.length) (hnew : ∀ i ∈ news, ∃ y, os[i]? = some (y, .dead)) (hlen : L'.length = pass.length + news.length)
    (hbL : bndL L L = true) (hba : args0.all (bnd L) = true) (hobj : objsM s.loc (nth (pass ++ news)) pass L)
    (hl : vals.length = args0.length) (hvals : ∀ (i : Nat) v d, vals[i]? = some v → args0[i]? = some d → RepV (avoidX A0 os []) os w v (mvT (nth (pass ++ news)) d)) :
    Calls P f vals.toArray w fun e w' => ∃ v os', e = .returned v ∧ Rep A0 w0 n os' (afterC s (pass ++ news) (notKept pass kept) L') a w' ∧ RepV (avoid A0 os') os' w' v (mvT (nth (pass ++ news)) d) := by
  obtain ⟨hpl, hole⟩ := objsM_get hobj
  generalize htg : pass ++ news = tgt at *
  have htl : tgt.length = L'.length := by rw [← htg, hlen]; simp
  have hmt : pass.length ≤ tgt.length := by rw [← htg]; simp
  have hpn : ∀ k, k < pass.length → pass[k]? = some (nth tgt k) := by
    intro k hk
    have h1 := nth_get (l := tgt) (k := k) (by omega)
    rw [← htg, List.getElem?_append_left hk] at h1
    rw [h1, htg]
  have hxe : ∀ b, avoidX A0 os [] b ↔ avoid A0 os b := by
    intro b
    constructor
    · exact avoidX_sub
    · rintro (hb | ⟨i, x, o', hi, hd, hbb⟩)
      · exact .inl hb
      · exact .inr ⟨i, x, o', hi, hd, by simp, hbb⟩
  -- the callee's objects
  let os_c : Objs := (List.range pass.length).map fun k => ((os[nth tgt k]?.map (·.1)).getD .nilFunc, (L[k]?).getD .dead)
  have hcl : os_c.length = pass.length := by simp [os_c]
  have hcget : ∀ k, k < pass.length → ∃ x o ob, os[nth tgt k]? = some (x, o) ∧ L[k]? = some ob ∧ os_c[k]? = some (x, ob) ∧ ole o (mvO (nth tgt) ob) := by
    intro k hk
    have hp := hpn k hk
    have hi := hlt _ (List.mem_of_getElem? hp)
    have ho := List.getElem?_eq_getElem hi
    have hL := List.getElem?_eq_getElem (l := L) (i := k) (by omega)
    refine ⟨os[nth tgt k].1, os[nth tgt k].2, L[k]'(by omega), ho, hL, ?_, ?_⟩
    · simp only [os_c, List.getElem?_map, List.getElem?_range hk, Option.map_some, ho, hL, Option.getD_some]
    · have := hole k _ _ hp hL
      rw [h.loc, lget_eq, List.getElem?_map, ho] at this
      exact this
  have hcof : ∀ {k : Nat} {x : Value} {ob : LObj}, os_c[k]? = some (x, ob) → k < pass.length ∧ L[k]? = some ob ∧ ∃ o, os[nth tgt k]? = some (x, o) ∧ ole o (mvO (nth tgt) ob) := by
    intro k x ob hk
    have hkl : k < pass.length := by have := (List.getElem?_eq_some_iff.1 hk).1; omega
    obtain ⟨x', o, ob', h1, h2, h3, h4⟩ := hcget k hkl
    rw [hk] at h3
    cases h3
    exact ⟨hkl, h2, o, h1, h4⟩
  have hsnd : os_c.map (·.2) = L := by
    apply List.ext_getElem?
    intro k
    rw [List.getElem?_map]
    by_cases hk : k < pass.length
    · obtain ⟨x, o, ob, h1, h2, h3, h4⟩ := hcget k hk
      rw [h3, h2]
      rfl
    · rw [List.getElem?_eq_none (by omega), List.getElem?_eq_none (by omega)]
      rfl
  have hS : Seen A0 os os_c tgt L pass.length := ⟨hcl, hmt, fun k x ob hk => hcof hk, hsnd⟩
  have hlive : ∀ {k : Nat} {ob : LObj} {o : LObj}, L[k]? = some ob → ob ≠ .dead → ole o (mvO (nth tgt) ob) → o ≠ .dead := fun hk hd hle => ole_mvO_dead hle hd (noGh_get hgh hk)
  have hofc : ∀ {b : Nat}, ofOs os_c b → ∃ k x o, k < pass.length ∧ os[nth tgt k]? = some (x, o) ∧ o ≠ .dead ∧ blk x = some b := by
    rintro b ⟨k, x, ob, hk, hd, hb⟩
    obtain ⟨h1, h2, o, h3, h4⟩ := hcof hk
    exact ⟨k, x, o, h1, h3, hlive h2 hd h4, hb⟩
  -- what is shut out
  let A_c : Nat → Prop := avoidX A0 os pass
  have hAlt : ∀ b, A_c b → b < w.heap.size := by
    rintro b (hb | ⟨i, x, o', hi, hd, _, hbb⟩)
    · exact h.a0_lt hb
    · exact ((h.obj _ _ _ hi).blk_ge hd hbb).2
  have hAout : ∀ b, A_c b → ¬ ofOs os_c b := by
    intro b hA hof
    obtain ⟨k, x, o, hk, ho, hod, hbb⟩ := hofc hof
    rcases hA with hb | ⟨i, y, o', hi, hd, hnp, hb2⟩
    · exact h.a0 b hb ((h.obj _ _ _ ho).blk_ge hod hbb).1
    · have := h.inj i (nth tgt k) _ _ _ _ b hi ho hd hod hb2 hbb
      exact hnp (by rw [this]; exact List.mem_of_getElem? (hpn k hk))
  have hav1 : ∀ b, avoid A_c os_c b → avoid A0 os b := by
    rintro b (hb | hof)
    · exact avoidX_sub hb
    · obtain ⟨k, x, o, hk, ho, hod, hbb⟩ := hofc hof
      exact .inr ⟨_, _, _, ho, hod, hbb⟩
  have k1 : Keeps (avoid A0 os) (avoid A_c os_c) w w := Keeps.less hav1
  have k1x : Keeps (avoidX A0 os []) (avoid A_c os_c) w w := Keeps.less (fun b hb => (hxe b).2 (hav1 b hb))
  have hlaid : Laid A_c os_c L w := by
    refine ⟨hsnd, fun k x ob hk => ?_, fun i j x o y o' b hi hj d1 d2 b1 b2 => ?_, hAout⟩
    · obtain ⟨hkl, hLk, o, ho, hle⟩ := hcof hk
      have hob := h.obj _ _ _ ho
      cases ob with
      | dead => exact trivial
      | gone =>
        have : o = .gone := by cases hle; rfl
        subst this
        exact hob
      | gh ds => exact absurd rfl (noGh_get hgh hLk ds)
      | row e sz es =>
        rw [ole_row' hle] at hob
        obtain ⟨_, xs, hown, hsz, hrl, hone, hr⟩ := hob
        exact ⟨fun _ _ => .inr trivial, xs, hown, hsz, hrl, hone, fun k' j' r d h1 h2 => by
          obtain ⟨v, hv, hi⟩ := hr k' j' r d h1 h2
          exact ⟨v, hv, hi.keep k1⟩⟩
      | cells t cs =>
        obtain ⟨cs', rfl, hcl', hcs⟩ := ole_cells' hle
        obtain ⟨g, arr, rfl, hB, hh, hs, hone, hrr⟩ := hob
        refine ⟨g, arr, rfl, .inr trivial, hh, by omega, hone, fun j v d hv hd => ?_⟩
        have hjl := (List.getElem?_eq_some_iff.1 hd).1
        have hc' := List.getElem?_eq_getElem (l := cs') (i := j) (by omega)
        exact unren0 hS k1 (bndL_get hbL hLk d (List.mem_of_getElem? hd)) ((hrr j v _ hv hc').less (hcs j _ d hc' hd))
    · obtain ⟨hk1, hL1, o1, ho1, hle1⟩ := hcof hi
      obtain ⟨hk2, hL2, o2, ho2, hle2⟩ := hcof hj
      have := h.inj _ _ _ _ _ _ b ho1 ho2 (hlive hL1 d1 hle1) (hlive hL2 d2 hle2) b1 b2
      exact nth_inj hnd (by omega) (by omega) this
  have hargs : RepAll (avoid A_c os_c) os_c w vals args0 := by
    have gen : ∀ (vs : List Value) (ds : List DV), vs.length = ds.length → (∀ (i : Nat) v d, vs[i]? = some v → ds[i]? = some d → RepV (avoid A_c os_c) os_c w v d) → RepAll (avoid A_c os_c) os_c w vs ds := by
      intro vs
      induction vs with
      | nil => intro ds hl _; cases ds <;> first | trivial | simp at hl
      | cons v vs ih =>
        intro ds hl hp
        cases ds with
        | nil => simp at hl
        | cons d ds => exact ⟨hp 0 v d rfl rfl, ih ds (by simpa using hl) (fun i v d hv hd => hp (i + 1) v d (by simpa using hv) (by simpa using hd))⟩
    refine gen vals args0 hl (fun i v d hv hd => ?_)
    simp only [List.all_eq_true] at hba
    exact unrenT hS k1x (hba d (List.mem_of_getElem? hd)) (hvals i v d hv hd)
  refine (hret.2 A_c w os_c vals hAlt hlaid hargs).mono fun e w' he => ?_
  obtain ⟨v, os'_c, rfl, hlaid', hrv, hgr, hblk, hkp⟩ := he
  have hqlen : os'_c.length = tgt.length := by rw [htl, ← hlaid'.loc]; simp
  have hgetc : ∀ {k : Nat} {x : Value} {ob : LObj}, os'_c[k]? = some (x, ob) → k < tgt.length ∧ L'[k]? = some ob := by
    intro k x ob hk
    refine ⟨by have := (List.getElem?_eq_some_iff.1 hk).1; omega, ?_⟩
    rw [← hlaid'.loc, List.getElem?_map, hk]
    rfl
  generalize hJ : notKept pass kept = J
  -- the objects behind the call
  let os' : Objs := (List.range os.length).map fun i => if i ∈ tgt then (match os'_c[tgt.idxOf i]? with
    | some p => (p.1, mvO (nth tgt) p.2)
    | none => (.nilFunc, .dead)) else match os[i]? with
    | some p => (p.1, mapO (jk0 J) p.2)
    | none => (.nilFunc, .dead)
  have htlt : ∀ i ∈ tgt, i < os.length := by
    intro i hi
    rw [← htg] at hi
    rcases List.mem_append.1 hi with hi | hi
    · exact hlt i hi
    · obtain ⟨y, hy⟩ := hnew i hi
      exact (List.getElem?_eq_some_iff.1 hy).1
  have hmem : ∀ {k : Nat}, k < tgt.length → nth tgt k ∈ tgt := fun hk => List.mem_of_getElem? (nth_get hk)
  have hidx : ∀ {k : Nat}, k < tgt.length → tgt.idxOf (nth tgt k) = k := by
    intro k hk
    have hm := hmem hk
    have h1 := List.idxOf_lt_length_of_mem hm
    have h2 : tgt[tgt.idxOf (nth tgt k)]? = some (nth tgt k) := by rw [List.getElem?_eq_getElem h1]; simp
    exact nodup_get hnd h2 (nth_get hk)
  have ht' : ∀ {k : Nat} {x : Value} {ob : LObj}, os'_c[k]? = some (x, ob) → os'[nth tgt k]? = some (x, mvO (nth tgt) ob) := by
    intro k x ob hk
    obtain ⟨hkl, _⟩ := hgetc hk
    have hm := hmem hkl
    simp only [os', List.getElem?_map, List.getElem?_range (htlt _ hm), Option.map_some, if_pos hm, hidx hkl, hk]
  have ho' : ∀ i, i ∉ tgt → os'[i]? = (os[i]?).map fun p => (p.1, mapO (jk0 J) p.2) := by
    intro i hi
    by_cases hl : i < os.length
    · simp only [os', List.getElem?_map, List.getElem?_range hl, Option.map_some, if_neg hi, List.getElem?_eq_getElem hl]
    · have h1 : os'[i]? = none := List.getElem?_eq_none (by simp [os']; omega)
      rw [h1, List.getElem?_eq_none (by omega)]
      rfl
  have hget : ∀ {i : Nat} {x : Value} {o' : LObj}, os'[i]? = some (x, o') → (∃ k ob, k < tgt.length ∧ i = nth tgt k ∧ os'_c[k]? = some (x, ob) ∧ o' = mvO (nth tgt) ob) ∨ (i ∉ tgt ∧ ∃ o1, os[i]? = some (x, o1) ∧ o' = mapO (jk0 J) o1) := by
    intro i x o' hi
    by_cases hm : i ∈ tgt
    · have h1 := List.idxOf_lt_length_of_mem hm
      have h2 : nth tgt (tgt.idxOf i) = i := by
        have h3 : tgt[tgt.idxOf i]? = some i := by rw [List.getElem?_eq_getElem h1]; simp
        have h4 := nth_get h1
        rw [h3] at h4
        exact (Option.some.inj h4).symm
      have h5 := List.getElem?_eq_getElem (l := os'_c) (i := tgt.idxOf i) (by omega)
      rcases hp : (os'_c[tgt.idxOf i]'(by omega)) with ⟨y, ob⟩
      rw [hp] at h5
      have h6 := ht' h5
      rw [h2, hi] at h6
      cases h6
      exact .inl ⟨_, _, h1, h2.symm, h5, rfl⟩
    · rw [ho' i hm] at hi
      cases h1 : os[i]? with
      | none => rw [h1] at hi; cases hi
      | some p => rw [h1] at hi; cases hi; exact .inr ⟨hm, _, rfl, rfl⟩
  have hdd : ∀ o1 : LObj, mapO (jk0 J) o1 ≠ .dead → o1 ≠ .dead := by intro o1; cases o1 <;> simp [mapO]
  have hmvd : ∀ ob : LObj, mvO (nth tgt) ob ≠ .dead → ob ≠ .dead := by intro ob; cases ob <;> simp [mvO]
  have hnpass : ∀ {i : Nat}, i ∉ tgt → i ∉ pass := fun hi hp => hi (by rw [← htg]; exact List.mem_append.2 (.inl hp))
  -- blocks of the objects behind the call
  have hofnew : ∀ {b : Nat}, ofOs os'_c b → (∃ k x o, k < pass.length ∧ os[nth tgt k]? = some (x, o) ∧ o ≠ .dead ∧ blk x = some b) ∨ w.heap.size ≤ b := fun hb => (hblk _ hb).imp hofc id
  have hav : ∀ b, b < w.heap.size → avoid A0 os' b → avoid A0 os b := by
    rintro b hbl (hb | ⟨i, x, o', hi, hd, hbb⟩)
    · exact .inl hb
    · rcases hget hi with ⟨k, ob, hk, rfl, hc, rfl⟩ | ⟨_, o1, h1, rfl⟩
      · rcases hofnew ⟨k, x, ob, hc, hmvd _ hd, hbb⟩ with ⟨_, y, o, _, h2, h3, h4⟩ | h2
        · exact .inr ⟨_, _, _, h2, h3, h4⟩
        · omega
      · exact .inr ⟨_, _, _, h1, hdd _ hd, hbb⟩
  have hsame : ∀ b, b < w.heap.size → ¬ ofOs os_c b → w'.heap[b]? = w.heap[b]? := hgr.block
  have kp : Keeps (avoid A0 os) (avoid A0 os') w w' := ⟨hgr.size, hav, fun b hb hn => hsame b hb (fun hof => hn (by
    obtain ⟨k, x, o, _, h2, h3, h4⟩ := hofc hof
    exact .inr ⟨_, _, _, h2, h3, h4⟩))⟩
  have kc : Keeps (avoid A_c os'_c) (avoid A0 os') w' w' := Keeps.less (by
    rintro b (hb | ⟨i, x, o', hi, hd, hbb⟩)
    · exact .inl (.inl hb)
    · rcases hget hi with ⟨k, ob, hk, rfl, hc, rfl⟩ | ⟨hni, o1, h1, rfl⟩
      · exact .inr ⟨k, x, ob, hc, hmvd _ hd, hbb⟩
      · exact .inl (.inr ⟨i, x, o1, h1, hdd _ hd, hnpass hni, hbb⟩))
  have hB : Back os os' os'_c tgt J tgt.length := ⟨hqlen, rfl, hnd, fun k x ob hk => ht' hk, ho'⟩
  obtain ⟨hks, hLL, _⟩ := keptOk_get (k := 0) hkept
  have hkeep : ∀ (i : Nat) x o, i ∉ J → os[i]? = some (x, o) → o ≠ .dead → (∃ e sz es, o = .row e sz es) ∨ (∃ t cs, o = .cells t cs) ∨ o = .gone → ∃ o', os'[i]? = some (x, o') ∧ kindIs o o' := by
    intro i x o hi ho hd hkind
    by_cases hm : i ∈ tgt
    · rw [← htg] at hm
      rcases List.mem_append.1 hm with hm | hm
      · obtain ⟨k, hk, rfl⟩ := List.getElem_of_mem hm
        have hpk := hpn k hk
        rw [List.getElem?_eq_getElem hk] at hpk
        have hpk := Option.some.inj hpk
        have hkt : kept[k]? = some true := by
          cases hc : kept[k]? with
          | none => rw [List.getElem?_eq_none_iff] at hc; omega
          | some b =>
            cases b with
            | true => rfl
            | false => exact absurd (by rw [← hJ]; exact notKept_mem (by omega) (List.getElem?_eq_getElem hk) (by rw [hc]; simp)) hi
        obtain ⟨x', o2, ob, h1, h2, h3, h4⟩ := hcget k hk
        rw [hpk] at ho
        rw [h1] at ho
        cases ho
        obtain ⟨o', hc'⟩ := hkp k x ob hkt h3
        obtain ⟨hkl, hL'⟩ := hgetc hc'
        have hsk := (keptOk_get (k := k) hkept).2.2 ob o' hkt h2 hL'
        rw [hpk]
        refine ⟨_, ht' hc', ?_⟩
        cases ob <;> cases o' <;> simp [sameKind] at hsk
        · obtain ⟨cs', rfl, _⟩ := ole_cells' h4
          simpa [kindIs, mvO] using hsk
        · rw [ole_row' h4]
          simpa [kindIs, mvO] using hsk
      · obtain ⟨y, hy⟩ := hnew i hm
        rw [ho] at hy
        cases hy
        exact absurd rfl hd
    · refine ⟨mapO (jk0 J) o, by rw [ho' i hm, ho]; rfl, ?_⟩
      cases o <;> simp [kindIs, mapO]
  have hmine : ∀ {b : Nat}, ofOs os_c b → w0.mine b := by
    intro b hof
    obtain ⟨k, x, o, _, h2, h3, h4⟩ := hofc hof
    exact ((h.obj _ _ _ h2).blk_ge h3 h4).1
  have hosl : os'.length = os.length := by simp [os']
  refine ⟨v, os', rfl, ⟨h.size, h.defers, ⟨hgr.os.trans h.gr.os, hgr.tape.trans h.gr.tape, hgr.output.trans h.gr.output, Nat.le_trans h.gr.size hgr.size, fun b hb hnm => ?_⟩, h.a0, ?_, fun t => ?_, fun i x o' hi => ?_, fun i j x o y o' b hi hj d1 d2 b1 b2 => ?_⟩, (reren hB kc hrv).2⟩
  · refine (hsame b (Nat.lt_of_lt_of_le hb h.gr.size) (fun hof => ?_)).trans (h.gr.block b hb hnm)
    rcases hmine hof with h1 | h1
    · omega
    · exact hnm h1
  · show setAll (voidL J s.loc) tgt (L'.map (mvO (nth tgt))) = _
    apply List.ext_getElem?
    intro i
    rw [List.getElem?_map]
    have hvl : (voidL J s.loc).length = os.length := by
      have : s.loc.length = os.length := h.len
      unfold voidL
      split
      · exact this
      · rw [mapL_eq]; simpa using this
    by_cases hm : i ∈ tgt
    · have h1 := List.idxOf_lt_length_of_mem hm
      have h2 : nth tgt (tgt.idxOf i) = i := by
        have h3 : tgt[tgt.idxOf i]? = some i := by rw [List.getElem?_eq_getElem h1]; simp
        have h4 := nth_get h1
        rw [h3] at h4
        exact (Option.some.inj h4).symm
      have h5 := List.getElem?_eq_getElem (l := os'_c) (i := tgt.idxOf i) (by omega)
      rcases hp : (os'_c[tgt.idxOf i]'(by omega)) with ⟨y, ob⟩
      rw [hp] at h5
      have h6 := ht' h5
      rw [h2] at h6
      rw [h6]
      have h7 := setAll_get tgt (voidL J s.loc) (L'.map (mvO (nth tgt))) (tgt.idxOf i) hnd (by simp [htl]) (fun q hq => by rw [hvl]; exact htlt q hq) h1
      rw [h2] at h7
      rw [h7, List.getElem?_map, (hgetc h5).2]
      rfl
    · rw [setAll_oth _ _ _ _ hm, ho' i hm, voidL_get, h.loc, List.getElem?_map]
      cases os[i]? <;> rfl
  · show RepV _ _ _ _ (look (voidE J s.env) t)
    rw [voidE_look]
    have hv := (void0 (J := J) kp hkeep (h.env t)).2
    split
    · rename_i hj
      subst hj
      rwa [jk_nil.2] at hv
    · exact hv
  · rcases hget hi with ⟨k, ob, hk, rfl, hc, rfl⟩ | ⟨hni, o1, h1, rfl⟩
    · have hobc := hlaid'.obj k x ob hc
      have hmb : ∀ b, ob ≠ .dead → blk x = some b → w0.mine b := by
        intro b hd hbb
        rcases hblk b ⟨k, x, ob, hc, hd, hbb⟩ with h1 | h1
        · exact hmine h1
        · exact Home.mine_new h.gr h1
      cases ob with
      | dead => exact trivial
      | gone => exact hobc
      | gh ds => exact trivial
      | row e sz es =>
        obtain ⟨_, xs, hown, hsz, hrl, hone, hr⟩ := hobc
        exact ⟨fun b hbb => hmb b (by simp) hbb, xs, hown, hsz, hrl, hone, fun k' j' r d h1 h2 => by
          obtain ⟨v, hv, hi⟩ := hr k' j' r d h1 h2
          exact ⟨v, hv, hi.keep kc⟩⟩
      | cells t cs =>
        obtain ⟨g, arr, rfl, hB', hh, hs, hone, hrr⟩ := hobc
        refine ⟨g, arr, rfl, hmb g (by simp) rfl, hh, by simpa using hs, hone, fun j v d hv hd => ?_⟩
        rw [List.getElem?_map] at hd
        cases hj : cs[j]? with
        | none => rw [hj] at hd; cases hd
        | some d' =>
          rw [hj] at hd
          simp at hd
          subst hd
          refine (reren hB kc (hrr j v d' hv hj)).1 (hone v ?_)
          rw [← Array.getElem?_toList] at hv
          exact List.mem_of_getElem? hv
    · have hob := h.obj _ _ _ h1
      have hblock : ∀ b, o1 ≠ .dead → blk x = some b → w'.heap[b]? = w.heap[b]? := by
        intro b hd hbb
        refine hsame b ((hob.blk_ge hd hbb).2) (fun hof => ?_)
        obtain ⟨k, y, o, hk, h2, h3, h4⟩ := hofc hof
        have := h.inj i (nth tgt k) _ _ _ _ b h1 h2 hd h3 hbb h4
        exact hni (by rw [this]; exact hmem (by omega))
      cases o1 with
      | dead => exact trivial
      | gone => exact hob
      | gh ds =>
        obtain ⟨e1, e2, e3, e4⟩ := hob
        refine ⟨e1, by simpa using e2, e3, fun i' v d hv hd => ?_⟩
        rw [List.getElem?_map] at hd
        cases hj : ds[i']? with
        | none => rw [hj] at hd; cases hd
        | some d' =>
          rw [hj] at hd
          simp at hd
          subst hd
          exact (void0 (J := J) kp hkeep (e4 i' v d' hv hj)).1 (e3 v (List.mem_of_getElem? hv))
      | cells t cs =>
        obtain ⟨g, arr, rfl, hB', hh, hs, hone, hrr⟩ := hob
        refine ⟨g, arr, rfl, hB', (hblock g (by simp) rfl).trans hh, by simpa using hs, hone, fun j v d hv hd => ?_⟩
        rw [List.getElem?_map] at hd
        cases hj : cs[j]? with
        | none => rw [hj] at hd; cases hd
        | some d' =>
          rw [hj] at hd
          simp at hd
          subst hd
          refine (void0 (J := J) kp hkeep (hrr j v d' hv hj)).1 (hone v ?_)
          rw [← Array.getElem?_toList] at hv
          exact List.mem_of_getElem? hv
      | row e sz es =>
        obtain ⟨hmine', xs, hown, hsz, hrl, hone, hr⟩ := hob
        refine ⟨hmine', xs, ⟨hown.1, ?_⟩, hsz, hrl, hone, fun k' j' r d h1 h2 => ?_⟩
        · rcases hown.2 with hn | ⟨g, cap, cur, rfl, hB', hh, rest⟩
          · exact .inl hn
          · exact .inr ⟨g, cap, cur, rfl, hB', (hblock g (by simp) rfl).trans hh, rest⟩
        · obtain ⟨v, hv, hi⟩ := hr k' j' r d h1 h2
          exact ⟨v, hv, hi.keep kp⟩
  · have mix : ∀ {i j : Nat} {x y : Value} {k : Nat} {ob o2 : LObj}, k < tgt.length → os'_c[k]? = some (x, ob) → ob ≠ .dead → blk x = some b → j ∉ tgt → os[j]? = some (y, o2) → o2 ≠ .dead → blk y = some b → False := by
      intro i j x y k ob o2 hk hc hd hbx hj ho2 hd2 hby
      rcases hofnew ⟨k, x, ob, hc, hd, hbx⟩ with ⟨k', z, o, hk', h2, h3, h4⟩ | h2
      · have := h.inj j (nth tgt k') _ _ _ _ b ho2 h2 hd2 h3 hby h4
        exact hj (by rw [this]; exact hmem (by omega))
      · have := ((h.obj _ _ _ ho2).blk_ge hd2 hby).2
        omega
    rcases hget hi with ⟨k1, ob1, hk1, rfl, hc1, rfl⟩ | ⟨hn1, o1, h1, rfl⟩ <;> rcases hget hj with ⟨k2, ob2, hk2, rfl, hc2, rfl⟩ | ⟨hn2, o2, h2, rfl⟩
    · rw [hlaid'.inj k1 k2 _ _ _ _ b hc1 hc2 (hmvd _ d1) (hmvd _ d2) b1 b2]
    · exact (mix (i := 0) hk1 hc1 (hmvd _ d1) b1 hn2 h2 (hdd _ d2) b2).elim
    · exact (mix (i := 0) hk2 hc2 (hmvd _ d2) b2 hn1 h1 (hdd _ d1) b1).elim
    · exact h.inj _ _ _ _ _ _ b h1 h2 (hdd _ d1) (hdd _ d2) b1 b2
end
end Go.Lift
