/- A data-level logic for the model: what a body does to data; its soundness (part LiftK). No conditions. -/
import Derived.Test.YtmfgjjnmfahcjaaLiftJ
set_option linter.unusedSimpArgs false
set_option linter.unusedVariables false
namespace Go.Lift
open Go

/-! # A state that tells less -/
section
variable {P : Program} {tt : TT} {A0 : Nat → Prop} {w0 : Home} {n : Nat} {os os' : Objs} {s t : DS} {a : Act} {w : World} {A A' : Nat → Prop} {B : Home} {m : List LObj}

theorem bnd_of_bnd0 {d : DV} (h : bnd0 m d = true) : bnd m d = true := by
  cases d <;> first | exact h | (simp [bnd0] at h)
/-- the objects that 'm' keeps are there, of the same kinds -/
def AlikeTo (m : List LObj) (os os' : Objs) : Prop := ∀ (i : Nat) (x : Value) (o : LObj), isRow (lget m i) = true ∨ isCells (lget m i) = true → os[i]? = some (x, o) → ∃ o', os'[i]? = some (x, o') ∧ kindIs o o'
theorem alikeTo_row {m : List LObj} {os os' : Objs} (ha : AlikeTo m os os') {i : Nat} {x : Value} {o : LObj} (hm : isRow (lget m i) = true) (h : os[i]? = some (x, o)) : ∃ o', os'[i]? = some (x, o') ∧ kindIs o o' := ha i x o (.inl hm) h
theorem alikeTo_cells {m : List LObj} {os os' : Objs} (ha : AlikeTo m os os') {i : Nat} {x : Value} {o : LObj} (hm : isCells (lget m i) = true) (h : os[i]? = some (x, o)) : ∃ o', os'[i]? = some (x, o') ∧ kindIs o o' := ha i x o (.inr hm) h
theorem RepV.trunc (k : Keeps A A' w w) (ha : AlikeTo m os os') {x : Value} {d : DV} (h : RepV A os w x d) : (bnd0 m d = true → RepV A' os' w x d) ∧ (bnd m d = true → RepV A' os' w x d) := by
  induction h with
  | imm h => exact ⟨fun _ => .imm (h.keep k), fun _ => .imm (h.keep k)⟩
  | @lp i off g _ _ h =>
    have key : isCells (lget m i) = true → RepV A' os' w (.pointer (some ⟨g, off, none⟩)) (.lp i off) := fun hb => by
      obtain ⟨o', h', hk⟩ := alikeTo_cells ha hb h
      cases o' <;> simp [kindIs] at hk
      exact .lp h'
    exact ⟨key, key⟩
  | @ap i off g _ _ h =>
    have key : isCells (lget m i) = true → RepV A' os' w (.pointer (some ⟨g, off, none⟩)) (.ap i off) := fun hb => by
      obtain ⟨o', h', hk⟩ := alikeTo_cells ha hb h
      cases o' <;> simp [kindIs] at hk
      exact .ap h'
    exact ⟨key, key⟩
  | @rp i kk off g n c e' sz' es' h =>
    have key : isRow (lget m i) = true → RepV A' os' w (.pointer (some ⟨g, kk * sz' + off, none⟩)) (.rp i kk off) := fun hb => by
      obtain ⟨o', h', hk⟩ := alikeTo_row ha hb h
      cases o' <;> simp [kindIs] at hk
      obtain ⟨rfl, rfl⟩ := hk
      exact .rp h'
    exact ⟨key, key⟩
  | @own i x _ _ _ h h1 =>
    have key : isRow (lget m i) = true → RepV A' os' w x (.own i) := fun hb => by
      obtain ⟨o', h', hk⟩ := alikeTo_row ha hb h
      cases o' <;> simp [kindIs] at hk
      exact .own h' h1
    exact ⟨key, key⟩
  | @stale i x y d h hd h1 =>
    have key : isRow (lget m i) = true → RepV A' os' w x d := fun hb => by
      obtain ⟨o', h', hk⟩ := alikeTo_row ha hb h
      cases o' <;> simp [kindIs] at hk
      exact .stale h' hd h1
    rcases hd with rfl | ⟨_, _, rfl⟩
    · exact ⟨key, key⟩
    · exact ⟨key, key⟩
  | @agg vs ds hl hone _ ih =>
    refine ⟨fun h => by simp [bnd0] at h, fun h => .agg hl hone (fun i v d hv hd => (ih i v d hv hd).1 ?_)⟩
    simp only [bnd, List.all_eq_true] at h
    exact h d (List.mem_of_getElem? hd)
  | @fn f vs ds hl hcap _ ih =>
    have key : bnd0 m (.fn f ds) = true → RepV A' os' w (.func f #[] vs.toArray) (.fn f ds) := fun hb => .fn hl hcap (fun i v d hv hd => by
      have hc := hcap d (List.mem_of_getElem? hd)
      simp only [bnd0, List.all_eq_true] at hb
      have h2 := hb d (List.mem_of_getElem? hd)
      cases d <;> simp [isCap, plainCap] at hc
      all_goals first | exact (ih i v _ hv hd).1 h2 | exact (ih i v _ hv hd).1 rfl | skip
      all_goals
        rename_i g caps
        have : caps = [] := by cases caps <;> simp_all [plainCap]
        subst this
        exact (ih i v _ hv hd).1 rfl)
    exact ⟨key, key⟩
  | wh _ h0 ih => exact ⟨fun h => by simp [bnd0] at h, fun h => by simp [bnd, bnd0] at h⟩
theorem RepV.le (k : Keeps A A' w w) (ha : AlikeTo m os os') {d d' : DV} (hd : dle d d') : ∀ {x : Value}, RepV A os w x d → bnd m d' = true → RepV A' os' w x d' := by
  induction hd with
  | refl => exact fun h hb => (h.trunc k ha).2 hb
  | nil hf =>
    intro x h _
    exact .imm ((h.lst_inv.le (.nil hf)).keep k)
  | nl =>
    intro x h _
    rw [h.nl_inv]
    exact .imm .nil
  | lst =>
    intro x h _
    exact .imm ((h.lst_inv.le .lst).keep k)
  | rows hl hr hh ih =>
    intro x h _
    exact .imm ((h.lst_inv.le (.rows hl hr hh)).keep k)
  | @agg cs ds hl hc ih =>
    intro x h hb
    cases h with
    | imm h => exact .imm ((h.le (.agg hl hc)).keep k)
    | stale h hd h1 => rcases hd with hd | ⟨_, _, hd⟩ <;> cases hd
    | @agg vs _ hl' hone h =>
      refine .agg (by omega) hone (fun i v d hv hd => ?_)
      have hlt := (List.getElem?_eq_some_iff.1 hv).1
      have hc' := List.getElem?_eq_getElem (l := cs) (i := i) (by omega)
      refine ih i _ d hc' hd (h i v _ hv hc') (bnd_of_bnd0 ?_)
      simp only [bnd, List.all_eq_true] at hb
      exact hb d (List.mem_of_getElem? hd)
  | tup hl hc ih =>
    intro x h hb
    simp [bnd, bnd0] at hb
  | junk => exact fun _ _ => .imm .junk

theorem envLe_look {e : List (Nat × DV)} : ∀ {e' : List (Nat × DV)} (t : Nat), EnvLe e e' → dle (look e t) (look e' t)
  | [], t, _ => .junk
  | p :: r, t, h => by
    simp only [look]
    split
    · rename_i hb
      have := Nat.eq_of_beq_eq_true hb
      subst this
      exact h.1
    · exact envLe_look t h.2
theorem bndE_look : ∀ {e : List (Nat × DV)} (t : Nat), bndE m e = true → bnd m (look e t) = true
  | [], t, _ => rfl
  | p :: r, t, h => by
    simp only [bndE, Bool.and_eq_true] at h
    simp only [look]
    split
    · exact h.1
    · exact bndE_look t h.2
theorem locLe_get : ∀ {l l' : List LObj} {i : Nat} {o' : LObj}, LocLe l l' → l'[i]? = some o' → ∃ o, l[i]? = some o ∧ ole o o'
  | l, [], i, o', _, hi => by simp at hi
  | [], _ :: _, i, o', h, hi => h.elim
  | o :: r, p :: r', 0, o', h, hi => by simp at hi; subst hi; exact ⟨o, rfl, h.1⟩
  | o :: r, p :: r', i + 1, o', h, hi => by
    obtain ⟨q, h1, h2⟩ := locLe_get (i := i) h.2 (by simpa using hi)
    exact ⟨q, by simpa using h1, h2⟩
theorem bndL_gh : ∀ {l : List LObj} {i : Nat} {cs : List DV}, bndL m l = true → l[i]? = some (.gh cs) → ∀ d ∈ cs, bnd0 m d = true
  | [], i, _, _, hi => by simp at hi
  | .gh cs' :: r, 0, cs, h, hi => by
    simp at hi
    subst hi
    simp only [bndL, Bool.and_eq_true, List.all_eq_true] at h
    exact h.1
  | .gh cs' :: r, i + 1, cs, h, hi => by
    simp only [bndL, Bool.and_eq_true] at h
    exact bndL_gh (i := i) h.2 (by simpa using hi)
  | .cells _ _ :: r, 0, cs, h, hi => by simp at hi
  | .cells _ _ :: r, i + 1, cs, h, hi => by
    simp only [bndL, Bool.and_eq_true] at h
    exact bndL_gh (i := i) h.2 (by simpa using hi)
  | .row _ _ _ :: r, 0, cs, h, hi => by simp at hi
  | .row _ _ _ :: r, i + 1, cs, h, hi => bndL_gh (i := i) (l := r) h (by simpa using hi)
  | .dead :: r, 0, cs, h, hi => by simp at hi
  | .dead :: r, i + 1, cs, h, hi => bndL_gh (i := i) (l := r) h (by simpa using hi)
  | .gone :: r, 0, cs, h, hi => by simp at hi
  | .gone :: r, i + 1, cs, h, hi => bndL_gh (i := i) (l := r) h (by simpa using hi)

theorem ole_kind {o o' : LObj} (h : ole o o') (hd : o' ≠ .dead) : kindIs o o' := by
  cases h with
  | refl => cases o <;> simp [kindIs]
  | cells _ _ => simp [kindIs]
  | gh _ _ => simp [kindIs]
  | dead => exact absurd rfl hd
theorem ole_dead {o o' : LObj} (h : ole o o') (hd : o' ≠ .dead) : o ≠ .dead := by
  cases h with
  | refl => exact hd
  | cells _ _ => simp
  | gh _ _ => simp
  | dead => exact absurd rfl hd
theorem zip_get {l : List LObj} {i : Nat} {x : Value} {o' : LObj} (h : ((os.map (·.1)).zip l)[i]? = some (x, o')) : l[i]? = some o' ∧ ∃ o, os[i]? = some (x, o) := by
  rw [List.getElem?_zip_eq_some] at h
  obtain ⟨h1, h2⟩ := h
  refine ⟨h2, ?_⟩
  rw [List.getElem?_map] at h1
  cases hi : os[i]? with
  | none => rw [hi] at h1; cases h1
  | some p => rw [hi] at h1; cases h1; exact ⟨p.2, rfl⟩
theorem Rep.le' (h : Rep A0 w0 n os s a w) (hst : s.le t) : ∃ os', Rep A0 w0 n os' t a w ∧ (∀ (i : Nat) (x : Value) (o' : LObj), os'[i]? = some (x, o') → ∃ o, os[i]? = some (x, o) ∧ ole o o') ∧ (∀ (v : Value) (d : DV), RepV (avoid A0 os) os w v d → bnd t.loc d = true → RepV (avoid A0 os') os' w v d) ∧ ∀ b, avoid A0 os' b → avoid A0 os b := by
  obtain ⟨he, hl, hb⟩ := hst
  simp only [Bool.and_eq_true] at hb
  obtain ⟨hb1, hb2⟩ := hb
  have get : ∀ {i : Nat} {x : Value} {o' : LObj}, ((os.map (·.1)).zip t.loc)[i]? = some (x, o') → ∃ o, os[i]? = some (x, o) ∧ ole o o' := by
    intro i x o' hi
    obtain ⟨h1, o, h2⟩ := zip_get hi
    obtain ⟨o2, h3, h4⟩ := locLe_get hl h1
    rw [h.loc, List.getElem?_map, h2] at h3
    cases h3
    exact ⟨o, h2, h4⟩
  have htl : ∀ {i : Nat}, i < t.loc.length → i < os.length := by
    intro i hi
    obtain ⟨o, ho, _⟩ := locLe_get hl (List.getElem?_eq_getElem hi)
    rw [h.loc] at ho
    simpa using (List.getElem?_eq_some_iff.1 ho).1
  have halike : AlikeTo t.loc os ((os.map (·.1)).zip t.loc) := by
    intro i x o hm ho
    have hlv : lget t.loc i ≠ .dead := by
      intro e
      rw [e] at hm
      simp [isRow, isCells] at hm
    have hi : i < t.loc.length := by
      rcases Nat.lt_or_ge i t.loc.length with h1 | h1
      · exact h1
      · exact absurd (by rw [lget_eq, List.getElem?_eq_none h1]; rfl) hlv
    obtain ⟨o2, h1, h2⟩ := locLe_get hl (List.getElem?_eq_getElem hi)
    rw [h.loc, List.getElem?_map, ho] at h1
    cases h1
    refine ⟨t.loc[i], ?_, ole_kind h2 (by rw [lget_eq, List.getElem?_eq_getElem hi] at hlv; exact hlv)⟩
    rw [List.getElem?_zip_eq_some, List.getElem?_map, ho]
    exact ⟨rfl, List.getElem?_eq_getElem hi⟩
  have hav : ∀ b, avoid A0 ((os.map (·.1)).zip t.loc) b → avoid A0 os b := by
    rintro b (hb | ⟨i, x, o', hi, hd, hbb⟩)
    · exact .inl hb
    · obtain ⟨o, ho, hle⟩ := get hi
      exact .inr ⟨i, x, o, ho, ole_dead hle hd, hbb⟩
  have k : Keeps (avoid A0 os) (avoid A0 ((os.map (·.1)).zip t.loc)) w w := Keeps.less hav
  refine ⟨(os.map (·.1)).zip t.loc, ⟨h.size, h.defers, h.gr, h.a0, ?_, fun u => (h.env u).le k halike (envLe_look u he) (bndE_look u hb1), fun i x o' hi => ?_, fun i j x o y o' b hi hj d1 d2 b1 b2 => ?_⟩, fun i x o' hi => get hi, fun v d hv hb => (hv.trunc k halike).2 hb, hav⟩
  · rw [List.map_snd_zip]
    rw [List.length_map]
    rcases Nat.lt_or_ge os.length t.loc.length with hlt | hge
    · exact absurd (htl hlt) (by omega)
    · exact hge
  · obtain ⟨o, ho, hle⟩ := get hi
    have hob := h.obj i x o ho
    have hti := (zip_get hi).1
    cases hle with
    | refl =>
      cases o' with
      | dead => exact trivial
      | gone => exact hob
      | gh ds =>
        obtain ⟨e1, e2, e3, e4⟩ := hob
        exact ⟨e1, e2, e3, fun j v d hv hd => ((e4 j v d hv hd).trunc k halike).1 (bndL_gh hb2 hti d (List.mem_of_getElem? hd))⟩
      | cells ty cs =>
        obtain ⟨g, arr, rfl, hB, hh, hs, hone, hr⟩ := hob
        exact ⟨g, arr, rfl, hB, hh, hs, hone, fun j v d hv hd => ((hr j v d hv hd).trunc k halike).1 (bndL_get hb2 hti d (List.mem_of_getElem? hd))⟩
      | row e sz es =>
        obtain ⟨hmine, xs, hown, hsz, hrl, hone, hr⟩ := hob
        exact ⟨hmine, xs, hown, hsz, hrl, hone, fun k' j r d h1 h2 => by
          obtain ⟨v, hv, hi⟩ := hr k' j r d h1 h2
          exact ⟨v, hv, hi.keep k⟩⟩
    | dead => exact trivial
    | @gh cs ds hl2 hc =>
      obtain ⟨e1, e2, e3, e4⟩ := hob
      refine ⟨e1, by omega, e3, fun j v d hv hd => ?_⟩
      have hlt := (List.getElem?_eq_some_iff.1 hd).1
      have hc' := List.getElem?_eq_getElem (l := cs) (i := j) (by omega)
      exact (e4 j v _ hv hc').le k halike (hc j _ d hc' hd) (bnd_of_bnd0 (bndL_gh hb2 hti d (List.mem_of_getElem? hd)))
    | @cells ty cs ds hl2 hc =>
      obtain ⟨g, arr, rfl, hB, hh, hs, hone, hr⟩ := hob
      refine ⟨g, arr, rfl, hB, hh, by omega, hone, fun j v d hv hd => ?_⟩
      have hlt := (List.getElem?_eq_some_iff.1 hd).1
      have hc' := List.getElem?_eq_getElem (l := cs) (i := j) (by omega)
      exact (hr j v _ hv hc').le k halike (hc j _ d hc' hd) (bnd_of_bnd0 (bndL_get hb2 hti d (List.mem_of_getElem? hd)))
  · obtain ⟨p, hp, l1⟩ := get hi
    obtain ⟨q, hq, l2⟩ := get hj
    exact h.inj i j x p y q b hp hq (ole_dead l1 d1) (ole_dead l2 d2) b1 b2

theorem Rep.le (h : Rep A0 w0 n os s a w) (hst : s.le t) : ∃ os', Rep A0 w0 n os' t a w := by
  obtain ⟨os', h', _⟩ := h.le' hst
  exact ⟨os', h'⟩

/-! ## nil slices taken for rows of the call's own -/
theorem push_nil {e : TypeId} {sz : Nat} (h : Rep A0 w0 n os s a w) : Rep A0 w0 n (os ++ [(.slice none 0 0, .row e (sz + 1) [])]) ⟨s.env, s.loc ++ [.row e (sz + 1) []]⟩ a w :=
  row_push (x := .slice none 0 0) (e := e) (sz := sz + 1) (es := []) (xs := []) h (grownBy.refl' w none) (by simp [blk]) ⟨by simp, .inl ⟨rfl, rfl⟩⟩ (Nat.succ_pos _) .nil
theorem adopt_ok : ∀ (ads : List Ad) {os : Objs} {s : DS} {K : DS → Prop}, Rep A0 w0 n os s a w → adoptK ads s K → ∃ os' s', Rep A0 w0 n os' s' a w ∧ K s'
  | [], os, s, K, h, hK => ⟨os, s, h, hK⟩
  | .slot t e sz :: r, os, s, K, h, hK => by
    unfold adoptK at hK
    split at hK
    · rename_i sz el
      have hp := push_nil (e := e) (sz := sz) h
      have hv := h.env t
      rw [el] at hv
      have hv := hv.nl_inv
      have hown : RepV (avoid A0 (os ++ [(.slice none 0 0, .row e (sz + 1) [])])) (os ++ [(.slice none 0 0, .row e (sz + 1) [])]) w (a.tmps.getD t undef) (.own s.loc.length) := by
        rw [hv, h.len]
        exact .own last_obj rfl
      refine adopt_ok r (os := os ++ [(.slice none 0 0, .row e (sz + 1) [])]) ⟨hp.size, hp.defers, hp.gr, hp.a0, hp.loc, fun u => ?_, hp.obj, hp.inj⟩ hK
      simp only [look]
      split
      · rename_i hb
        have := Nat.eq_of_beq_eq_true hb
        subst this
        exact hown
      · exact hp.env u
    · exact hK.elim
  | .cell i off e sz :: r, os, s, K, h, hK => by
    unfold adoptK at hK
    split at hK
    · rename_i ty cs sz hl
      split at hK
      · rename_i hc
        have hp := push_nil (e := e) (sz := sz) h
        rw [h.loc] at hl
        obtain ⟨x, hi⟩ := lget_os hl (by simp)
        have hlt := (List.getElem?_eq_some_iff.1 hi).1
        have hi' : (os ++ [(Value.slice none 0 0, LObj.row e (sz + 1) [])])[i]? = some (x, .cells ty cs) := by rw [List.getElem?_append_left hlt]; exact hi
        have hup := hp.update (ob' := .cells ty (dset cs off (.own s.loc.length))) hi' rfl (by simp) (by simp) (grownBy.refl' w _) ?_
        · refine adopt_ok r (s := ⟨s.env, lset (s.loc ++ [.row e (sz + 1) []]) i (.cells ty (dset cs off (.own s.loc.length)))⟩) hup ?_
          have : lset (s.loc ++ [.row e (sz + 1) []]) i (.cells ty (dset cs off (.own s.loc.length))) = lset s.loc i (.cells ty (dset cs off (.own s.loc.length))) ++ [.row e (sz + 1) []] := by
            rw [lset_eq, lset_eq, List.set_append_left _ _ (by rw [h.len]; exact hlt)]
          rw [this]
          exact hK
        · obtain ⟨g, arr, hx, hB, hh, hs, hone, hr⟩ := hp.obj i x _ hi'
          have hal := alike_set (ob' := .cells ty (dset cs off (.own s.loc.length))) hi' rfl
          have hk := keeps_set (A0 := A0) (ob' := .cells ty (dset cs off (.own s.loc.length))) hi' (by simp) (grownBy.refl' w _)
          refine ⟨g, arr, hx, hB, hh, by rw [dset_eq]; simpa using hs, hone, fun j v d hv hd => ?_⟩
          rw [dset_eq, List.getElem?_set] at hd
          split at hd
          · rename_i hj
            subst hj
            split at hd
            · cases hd
              have := (hr _ v _ hv hc).nl_inv
              subst this
              rw [h.len]
              refine .own (e := e) (sz := sz + 1) (es := []) ?_ rfl
              rw [List.getElem?_set_ne (by omega)]
              exact last_obj
            · cases hd
          · exact (hr j v d hv hd).keep hk hal
      · exact hK.elim
    · exact hK.elim
end
end Go.Lift
