/- A data-level logic for the model: what a body does to data; its soundness (part LiftH2). No conditions. -/
import Derived.Test.YtmfgjjnmfahcjaaLiftH
set_option linter.unusedSimpArgs false
set_option linter.unusedVariables false
namespace Go.Lift
open Go

/-! # Calls that are handed objects -/
section
variable {P : Program} {tt : TT} {A0 : Nat → Prop} {w0 : Home} {n : Nat} {os : Objs} {s : DS} {a : Act} {w : World} {o : Oper} {K : DS → Prop} {A : Nat → Prop}

theorem push_dead (h : Rep A0 w0 n os s a w) : ∀ m, ∃ os', Rep A0 w0 n os' ⟨s.env, s.loc ++ List.replicate m .dead⟩ a w
  | 0 => ⟨os, by simpa using h⟩
  | m + 1 => by
    obtain ⟨os', h'⟩ := push_dead h m
    have := h'.push (x := .nilFunc) (ob := .dead) (grownBy.refl' w none) (by simp [blk]) trivial
    refine ⟨os' ++ [(.nilFunc, .dead)], ?_⟩
    rw [List.replicate_succ', ← List.append_assoc]
    exact this

theorem RepV.less {x : Value} {d d' : DV} (hd : dle d d') (h : RepV A os w x d) : RepV A os w x d' := by
  induction hd generalizing x with
  | refl => exact h
  | nil hf => exact .imm (h.lst_inv.le (.nil hf))
  | nl => rw [h.nl_inv]; exact .imm .nil
  | lst => exact .imm (h.lst_inv.le .lst)
  | rows hl hr hh ih => exact .imm (h.lst_inv.le (.rows hl hr hh))
  | @agg cs ds hl hc ih =>
    cases h with
    | imm h => exact .imm (h.le (.agg hl hc))
    | stale h hd h1 => rcases hd with hd | ⟨_, _, hd⟩ <;> cases hd
    | @agg vs _ hl' hone h =>
      refine .agg (by omega) hone (fun i v d hv hd => ?_)
      have hlt := (List.getElem?_eq_some_iff.1 hv).1
      have hc' := List.getElem?_eq_getElem (l := cs) (i := i) (by omega)
      exact ih i _ d hc' hd (h i v _ hv hc')
  | tup hl hc ih => exact .imm (h.tup_inv.le (.tup hl hc))
  | junk => exact .imm .junk

theorem nth_get : ∀ {l : List Nat} {k : Nat}, k < l.length → l[k]? = some (nth l k)
  | [], k, h => by simp at h
  | i :: r, 0, _ => rfl
  | i :: r, k + 1, h => by simpa [nth] using nth_get (l := r) (k := k) (by simpa using h)
theorem nodupB_iff : ∀ {l : List Nat}, nodupB l = true → l.Nodup
  | [], _ => List.nodup_nil
  | i :: r, h => by
    simp only [nodupB, Bool.and_eq_true, Bool.not_eq_true', List.contains_eq_mem, decide_eq_false_iff_not] at h
    exact List.nodup_cons.2 ⟨h.1, nodupB_iff h.2⟩
theorem nodup_get {l : List Nat} (hn : l.Nodup) {i j x : Nat} (hi : l[i]? = some x) (hj : l[j]? = some x) : i = j := by
  obtain ⟨h1, e1⟩ := List.getElem?_eq_some_iff.1 hi
  obtain ⟨h2, e2⟩ := List.getElem?_eq_some_iff.1 hj
  exact (List.getElem_inj hn).1 (e1.trans e2.symm)
theorem nth_inj {l : List Nat} (hn : l.Nodup) {i j : Nat} (hi : i < l.length) (hj : j < l.length) (h : nth l i = nth l j) : i = j :=
  nodup_get hn (nth_get hi) (by rw [h]; exact nth_get hj)

section
variable {m : List LObj}
theorem bndL_get : ∀ {l : List LObj} {i : Nat} {ty : TypeId} {cs : List DV}, bndL m l = true → l[i]? = some (.cells ty cs) → ∀ d ∈ cs, bnd0 m d = true
  | [], i, _, _, _, hi => by simp at hi
  | .cells t cs' :: r, 0, ty, cs, h, hi => by
    simp at hi
    obtain ⟨rfl, rfl⟩ := hi
    simp only [bndL, Bool.and_eq_true, List.all_eq_true] at h
    exact h.1
  | .cells t cs' :: r, i + 1, ty, cs, h, hi => by
    simp only [bndL, Bool.and_eq_true] at h
    exact bndL_get (i := i) h.2 (by simpa using hi)
  | .row _ _ _ :: r, 0, ty, cs, h, hi => by simp at hi
  | .row _ _ _ :: r, i + 1, ty, cs, h, hi => bndL_get (i := i) (l := r) h (by simpa using hi)
  | .dead :: r, 0, ty, cs, h, hi => by simp at hi
  | .dead :: r, i + 1, ty, cs, h, hi => bndL_get (i := i) (l := r) h (by simpa using hi)
  | .gone :: r, 0, ty, cs, h, hi => by simp at hi
  | .gone :: r, i + 1, ty, cs, h, hi => bndL_get (i := i) (l := r) h (by simpa using hi)
  | .gh _ :: r, 0, ty, cs, h, hi => by simp at hi
  | .gh _ :: r, i + 1, ty, cs, h, hi => by
    simp only [bndL, Bool.and_eq_true] at h
    exact bndL_get (i := i) h.2 (by simpa using hi)
end

/-! ## how the callee sees the objects -/
structure Seen (A0 : Nat → Prop) (os os_c : Objs) (tgt : List Nat) (L : List LObj) (m : Nat) : Prop where
  len : os_c.length = m
  mt : m ≤ tgt.length
  get : ∀ (k : Nat) x ob, os_c[k]? = some (x, ob) → k < m ∧ L[k]? = some ob ∧ ∃ o, os[nth tgt k]? = some (x, o) ∧ ole o (mvO (nth tgt) ob)
  snd : os_c.map (·.2) = L

theorem ole_row' {o : LObj} {ρ : Nat → Nat} {e : TypeId} {sz : Nat} {es : List (List DV)} (h : ole o (mvO ρ (.row e sz es))) : o = .row e sz es := by
  cases h with
  | refl => rfl
theorem ole_cells' {o : LObj} {ρ : Nat → Nat} {t : TypeId} {cs : List DV} (h : ole o (mvO ρ (.cells t cs))) : ∃ cs', o = .cells t cs' ∧ cs'.length = cs.length ∧ ∀ (i : Nat) c d, cs'[i]? = some c → cs[i]? = some d → dle c (mv0 ρ d) := by
  cases h with
  | refl => exact ⟨_, rfl, by simp, fun i c d hc hd => by
      rw [List.getElem?_map, hd] at hc
      cases hc
      exact .refl⟩
  | cells hl h => exact ⟨_, rfl, by simpa using hl, fun i c d hc hd => h i c _ hc (by rw [List.getElem?_map, hd]; rfl)⟩

variable {os_c : Objs} {tgt : List Nat} {L : List LObj} {m : Nat} {A_c : Nat → Prop}
theorem Seen.row (hS : Seen A0 os os_c tgt L m) {j : Nat} (h : isRow (lget L j) = true) : ∃ x e sz es, os_c[j]? = some (x, .row e sz es) ∧ os[nth tgt j]? = some (x, .row e sz es) := by
  rw [← hS.snd] at h
  obtain ⟨x, e, sz, es, hj⟩ := isRow_os h
  obtain ⟨_, _, o, ho, hle⟩ := hS.get j _ _ hj
  rw [ole_row' hle] at ho
  exact ⟨x, e, sz, es, hj, ho⟩
theorem Seen.cells (hS : Seen A0 os os_c tgt L m) {j : Nat} (h : isCells (lget L j) = true) : ∃ x t cs cs', os_c[j]? = some (x, .cells t cs) ∧ os[nth tgt j]? = some (x, .cells t cs') := by
  rw [← hS.snd] at h
  obtain ⟨x, t, cs, hj⟩ := isCells_os h
  obtain ⟨_, _, o, ho, hle⟩ := hS.get j _ _ hj
  obtain ⟨cs', rfl, _⟩ := ole_cells' hle
  exact ⟨x, t, cs, cs', hj, ho⟩
theorem unren0 (hS : Seen A0 os os_c tgt L m) (k : Keeps A (avoid A_c os_c) w w) {v : Value} {d : DV} (hb : bnd0 L d = true) (h : RepV A os w v (mv0 (nth tgt) d)) : RepV (avoid A_c os_c) os_c w v d := by
  cases d with
  | own j =>
    obtain ⟨x, e, sz, es, h1, h2⟩ := hS.row hb
    have := h.own_row h2
    subst this
    exact .own h1 h.own_inv.1
  | rp j kk off =>
    obtain ⟨x, e, sz, es, h1, h2⟩ := hS.row hb
    obtain ⟨g, n, c, rfl, rfl⟩ := h.rp_row h2
    exact .rp h1
  | lp j off =>
    obtain ⟨x, t, cs, cs', h1, h2⟩ := hS.cells hb
    obtain ⟨g, t', cs2, h3, rfl⟩ := h.lp_inv
    rw [h2] at h3
    cases h3
    exact .lp h1
  | ap j off =>
    obtain ⟨x, t, cs, cs', h1, h2⟩ := hS.cells hb
    obtain ⟨g, t', cs2, h3, rfl⟩ := h.ap_inv
    rw [h2] at h3
    cases h3
    exact .ap h1
  | fn f caps =>
    have h : RepV A os w v (.fn f (caps.map (mvC (nth tgt)))) := h
    simp only [bnd0, List.all_eq_true] at hb
    have one : ∀ {x : Value} {c : DV}, c ∈ caps → RepV A os w x (mvC (nth tgt) c) → (∃ j off, c = .lp j off) → RepV (avoid A_c os_c) os_c w x c := by
      rintro x c hc hx ⟨j, off, rfl⟩
      have hb := hb _ hc
      obtain ⟨x', t, cs, cs', h1, h2⟩ := hS.cells hb
      obtain ⟨g, t', cs2, h3, rfl⟩ := RepV.lp_inv hx
      rw [h2] at h3
      cases h3
      exact .lp h1
    cases h with
    | imm h =>
      cases h with
      | fn hl hp =>
        refine .imm (.fn (by simpa using hl) (fun i x c hx hc => ?_))
        have h2 := hp i x (mvC (nth tgt) c) hx (by rw [List.getElem?_map, hc]; rfl)
        by_cases hlp : ∃ j off, c = .lp j off
        · obtain ⟨j, off, rfl⟩ := hlp
          cases h2
        · have : mvC (nth tgt) c = c := by cases c <;> first | rfl | exact absurd ⟨_, _, rfl⟩ hlp
          rw [this] at h2
          exact h2.keep k
    | stale h hd h1 => rcases hd with hd | ⟨_, _, hd⟩ <;> cases hd
    | fn hl hcap hp =>
      refine .fn (by simpa using hl) (fun c hc => ?_) (fun i x c hx hc => ?_)
      · have := hcap (mvC (nth tgt) c) (List.mem_map_of_mem hc)
        cases c <;> first | exact this | rfl
      · have h2 := hp i x (mvC (nth tgt) c) hx (by rw [List.getElem?_map, hc]; rfl)
        have hcm := List.mem_of_getElem? hc
        by_cases hlp : ∃ j off, c = .lp j off
        · exact one hcm h2 hlp
        · have e1 : mvC (nth tgt) c = c := by cases c <;> first | rfl | exact absurd ⟨_, _, rfl⟩ hlp
          rw [e1] at h2
          have hcc := hcap _ (List.mem_map_of_mem (f := mvC (nth tgt)) hcm)
          rw [e1] at hcc
          by_cases hip : ∃ cs, c = .ip cs
          · obtain ⟨cs, rfl⟩ := hip
            exact .imm (h2.ip_inv.keep k)
          · refine .imm ((h2.plain ?_).2.keep k)
            cases c
            case lp => exact absurd ⟨_, _, rfl⟩ hlp
            case ip => exact absurd ⟨_, rfl⟩ hip
            case fn g cs =>
              have : cs = [] := by cases cs <;> simp_all [isCap, plainCap]
              subst this
              rfl
            all_goals first | rfl | (simp [isCap, plainCap] at hcc)
  | agg cs => simp [bnd0] at hb
  | tup ds => simp [bnd0] at hb
  | wh b d => simp [bnd0] at hb
  | v y => obtain ⟨rfl, h1⟩ := RepV.v_inv h; exact .imm (.v h1)
  | lst sz es f => exact .imm ((RepV.lst_inv h).keep k)
  | ip cs => exact .imm ((RepV.ip_inv h).keep k)
  | nl => rw [RepV.nl_inv h]; exact .imm .nl
  | junk => exact .imm .junk
theorem unrenT (hS : Seen A0 os os_c tgt L m) (k : Keeps A (avoid A_c os_c) w w) {v : Value} {d : DV} (hb : bnd L d = true) (h : RepV A os w v (mvT (nth tgt) d)) : RepV (avoid A_c os_c) os_c w v d := by
  by_cases hd : ∃ cs, d = .agg cs
  · obtain ⟨cs, rfl⟩ := hd
    obtain ⟨vs, rfl, hl, hone, hp⟩ := RepV.agg_inv h
    simp only [bnd, List.all_eq_true] at hb
    exact .agg (by simpa using hl) hone (fun i v c hv hc => unren0 hS k (hb c (List.mem_of_getElem? hc)) (hp i v _ hv (by rw [List.getElem?_map, hc]; rfl)))
  · by_cases hw : ∃ b e, d = .wh b e
    · obtain ⟨b, e, rfl⟩ := hw
      simp [bnd, bnd0] at hb
    · have h1 : bnd L d = bnd0 L d := by cases d <;> first | rfl | exact absurd ⟨_, rfl⟩ hd
      have h2 : mvT (nth tgt) d = mv0 (nth tgt) d := by cases d <;> first | rfl | exact absurd ⟨_, rfl⟩ hd | exact absurd ⟨_, _, rfl⟩ hw
      rw [h1] at hb
      rw [h2] at h
      exact unren0 hS k hb h

/-! ## how the caller sees them behind the call -/
structure Back (os os' os_c : Objs) (tgt J : List Nat) (q : Nat) : Prop where
  len : os_c.length = q
  qt : q = tgt.length
  nd : tgt.Nodup
  get : ∀ (k : Nat) x ob, os_c[k]? = some (x, ob) → os'[nth tgt k]? = some (x, mvO (nth tgt) ob)
  oth : ∀ i, i ∉ tgt → os'[i]? = (os[i]?).map fun p => (p.1, mapO (jk0 J) p.2)

theorem reren {os' : Objs} {J : List Nat} {q : Nat} (hB : Back os os' os_c tgt J q) (k : Keeps (avoid A_c os_c) A w w) {v : Value} {d : DV} (h : RepV (avoid A_c os_c) os_c w v d) : (v.oneCell' = true → RepV A os' w v (mv0 (nth tgt) d)) ∧ RepV A os' w v (mvT (nth tgt) d) := by
  have himm : ∀ {v : Value} {d : DV}, Imm (avoid A_c os_c) w v d → Imm A w v (mv0 (nth tgt) d) ∧ Imm A w v (mvT (nth tgt) d) := by
    intro v d hz
    induction hz with
    | v h => exact ⟨.v h, .v h⟩
    | lst xs hn hc hm hf hsz hA hb hone hcell hx ih => exact ⟨(Imm.lst xs hn hc hm hf hsz hA hb hone hcell hx).keep k, (Imm.lst xs hn hc hm hf hsz hA hb hone hcell hx).keep k⟩
    | nil => exact ⟨.nil, .nil⟩
    | nl => exact ⟨.nl, .nl⟩
    | agg hl hone h ih =>
      refine ⟨(Imm.agg hl hone h).keep k, .agg (by simpa using hl) hone (fun j v d hv hd => ?_)⟩
      rw [List.getElem?_map] at hd
      rename_i ds
      cases hj : ds[j]? with
      | none => rw [hj] at hd; cases hd
      | some e => rw [hj] at hd; simp at hd; subst hd; exact (ih j v e hv hj).1
    | tup hl h _ => exact ⟨(Imm.tup hl h).keep k, (Imm.tup hl h).keep k⟩
    | ip xs hA hb hone hcell hx _ => exact ⟨(Imm.ip xs hA hb hone hcell hx).keep k, (Imm.ip xs hA hb hone hcell hx).keep k⟩
    | @fn f vs ds hl h _ =>
      have key : Imm A w (.func f #[] vs.toArray) (.fn f (ds.map (mvC (nth tgt)))) := by
        refine .fn (by simpa using hl) (fun j v d hv hd => ?_)
        rw [List.getElem?_map] at hd
        cases hj : ds[j]? with
        | none => rw [hj] at hd; cases hd
        | some e =>
          rw [hj] at hd
          simp at hd
          subst hd
          have h2 := h j v e hv hj
          cases e
          case lp => cases h2
          all_goals exact h2.keep k
      exact ⟨key, key⟩
    | wh _ h0 ih => exact ⟨.wh (fun hb => (ih hb).1) h0, .wh (fun hb => (ih hb).2) h0⟩
    | junk => exact ⟨.junk, .junk⟩
  induction h with
  | imm h => exact ⟨fun _ => .imm (himm h).1, .imm (himm h).2⟩
  | lp h => have := hB.get _ _ _ h; exact ⟨fun _ => .lp this, .lp this⟩
  | ap h => have := hB.get _ _ _ h; exact ⟨fun _ => .ap this, .ap this⟩
  | rp h => have := hB.get _ _ _ h; exact ⟨fun _ => .rp this, .rp this⟩
  | own h h1 => have := hB.get _ _ _ h; exact ⟨fun _ => .own this h1, .own this h1⟩
  | stale h hd h1 =>
    have := hB.get _ _ _ h
    rcases hd with rfl | ⟨_, _, rfl⟩
    · exact ⟨fun _ => .stale this (.inl rfl) h1, .stale this (.inl rfl) h1⟩
    · exact ⟨fun _ => .stale this (.inr ⟨_, _, rfl⟩) h1, .stale this (.inr ⟨_, _, rfl⟩) h1⟩
  | @agg vs ds hl hone _ ih =>
    refine ⟨fun h => by simp [Value.oneCell'] at h, .agg (by simpa using hl) hone (fun j v d hv hd => ?_)⟩
    rw [List.getElem?_map] at hd
    cases hj : ds[j]? with
    | none => rw [hj] at hd; cases hd
    | some e => rw [hj] at hd; simp at hd; subst hd; exact (ih j v e hv hj).1 (hone v (List.mem_of_getElem? hv))
  | @fn f vs ds hl hcap hh ih =>
    have key : RepV A os' w (.func f #[] vs.toArray) (.fn f (ds.map (mvC (nth tgt)))) := by
      refine .fn (by simpa using hl) (fun d hd => ?_) (fun j v d hv hd => ?_)
      · obtain ⟨e, he, rfl⟩ := List.mem_map.1 hd
        have := hcap e he
        cases e <;> first | exact this | rfl
      · rw [List.getElem?_map] at hd
        cases hj : ds[j]? with
        | none => rw [hj] at hd; cases hd
        | some e =>
          rw [hj] at hd
          simp at hd
          subst hd
          have h2 := (ih j v e hv hj).2
          have hc := hcap e (List.mem_of_getElem? hj)
          cases e
          case fn g cs =>
            have : cs = [] := by cases cs <;> simp_all [isCap, plainCap]
            subst this
            exact h2
          all_goals first | exact h2 | (simp [isCap, plainCap] at hc)
    exact ⟨fun _ => key, key⟩
  | wh _ h0 ih => exact ⟨fun h1 => .wh (fun hb => (ih hb).1 h1) h0, .wh (fun hb => (ih hb).2) h0⟩

/-- handles of the caller's that the call leaves as they were -/
theorem void0 {os' : Objs} {J : List Nat} {A A' : Nat → Prop} {w' : World} (k : Keeps A A' w w')
    (hkeep : ∀ (i : Nat) x o, i ∉ J → os[i]? = some (x, o) → o ≠ .dead → (∃ e sz es, o = .row e sz es) ∨ (∃ t cs, o = .cells t cs) ∨ o = .gone → ∃ o', os'[i]? = some (x, o') ∧ kindIs o o')
    {v : Value} {d : DV} (h : RepV A os w v d) : (v.oneCell' = true → RepV A' os' w' v (jk0 J d)) ∧ RepV A' os' w' v (jkT J d) := by
  have himm : ∀ {v : Value} {d : DV}, Imm A w v d → Imm A' w' v (jk0 J d) ∧ Imm A' w' v (jkT J d) := by
    intro v d hz
    induction hz with
    | v h => exact ⟨.v h, .v h⟩
    | lst xs hn hc hm hf hsz hA hb hone hcell hx ih => exact ⟨(Imm.lst xs hn hc hm hf hsz hA hb hone hcell hx).keep k, (Imm.lst xs hn hc hm hf hsz hA hb hone hcell hx).keep k⟩
    | nil => exact ⟨.nil, .nil⟩
    | nl => exact ⟨.nl, .nl⟩
    | agg hl hone h ih =>
      refine ⟨(Imm.agg hl hone h).keep k, .agg (by simpa using hl) hone (fun j v d hv hd => ?_)⟩
      rw [List.getElem?_map] at hd
      rename_i ds
      cases hj : ds[j]? with
      | none => rw [hj] at hd; cases hd
      | some e => rw [hj] at hd; simp at hd; subst hd; exact (ih j v e hv hj).1
    | tup hl h _ => exact ⟨(Imm.tup hl h).keep k, (Imm.tup hl h).keep k⟩
    | ip xs hA hb hone hcell hx _ => exact ⟨(Imm.ip xs hA hb hone hcell hx).keep k, (Imm.ip xs hA hb hone hcell hx).keep k⟩
    | @fn f vs ds hl h _ =>
      have key : Imm A' w' (.func f #[] vs.toArray) (jk0 J (.fn f ds)) := by
        simp only [jk0]
        split
        · exact .junk
        · exact (Imm.fn hl h).keep k
      exact ⟨key, key⟩
    | wh _ h0 ih => exact ⟨.wh (fun hb => (ih hb).1) h0, .wh (fun hb => (ih hb).2) h0⟩
    | junk => exact ⟨.junk, .junk⟩
  have nin : ∀ {j : Nat}, J.contains j = false → j ∉ J := by
    intro j h
    simpa using h
  induction h with
  | imm h => exact ⟨fun _ => .imm (himm h).1, .imm (himm h).2⟩
  | @lp j off g t cs h =>
    have key : RepV A' os' w' (.pointer (some ⟨g, off, none⟩)) (jk0 J (.lp j off)) := by
      simp only [jk0]
      split
      · exact .imm .junk
      · rename_i hb
        obtain ⟨o', h', hk⟩ := hkeep _ _ _ (nin hb) h (by simp) (.inr (.inl ⟨_, _, rfl⟩))
        cases o' <;> simp [kindIs] at hk
        exact .lp h'
    exact ⟨fun _ => key, key⟩
  | @ap j off g t cs h =>
    have key : RepV A' os' w' (.pointer (some ⟨g, off, none⟩)) (jk0 J (.ap j off)) := by
      simp only [jk0]
      split
      · exact .imm .junk
      · rename_i hb
        obtain ⟨o', h', hk⟩ := hkeep _ _ _ (nin hb) h (by simp) (.inr (.inl ⟨_, _, rfl⟩))
        cases o' <;> simp [kindIs] at hk
        exact .ap h'
    exact ⟨fun _ => key, key⟩
  | @rp j kk off g n c e sz es h =>
    have key : RepV A' os' w' (.pointer (some ⟨g, kk * sz + off, none⟩)) (jk0 J (.rp j kk off)) := by
      simp only [jk0]
      split
      · exact .imm .junk
      · rename_i hb
        obtain ⟨o', h', hk⟩ := hkeep _ _ _ (nin hb) h (by simp) (.inl ⟨_, _, _, rfl⟩)
        cases o' <;> simp [kindIs] at hk
        obtain ⟨rfl, rfl⟩ := hk
        exact .rp h'
    exact ⟨fun _ => key, key⟩
  | @own j x e sz es h h1 =>
    have key : RepV A' os' w' x (jk0 J (.own j)) := by
      simp only [jk0]
      split
      · exact .imm .junk
      · rename_i hb
        obtain ⟨o', h', hk⟩ := hkeep _ _ _ (nin hb) h (by simp) (.inl ⟨_, _, _, rfl⟩)
        cases o' <;> simp [kindIs] at hk
        exact .own h' h1
    exact ⟨fun _ => key, key⟩
  | @stale j x y d h hd h1 =>
    have gone : j ∉ J → ∃ y, os'[j]? = some (y, .gone) := fun hj => by
      obtain ⟨o', h', hk⟩ := hkeep _ _ _ hj h (by simp) (.inr (.inr rfl))
      cases o' <;> simp [kindIs] at hk
      exact ⟨_, h'⟩
    rcases hd with rfl | ⟨kk, off, rfl⟩
    · have key : RepV A' os' w' x (jk0 J (.own j)) := by
        simp only [jk0]
        split
        · exact .imm .junk
        · rename_i hb
          obtain ⟨y', h'⟩ := gone (nin hb)
          exact .stale h' (.inl rfl) h1
      exact ⟨fun _ => key, key⟩
    · have key : RepV A' os' w' x (jk0 J (.rp j kk off)) := by
        simp only [jk0]
        split
        · exact .imm .junk
        · rename_i hb
          obtain ⟨y', h'⟩ := gone (nin hb)
          exact .stale h' (.inr ⟨_, _, rfl⟩) h1
      exact ⟨fun _ => key, key⟩
  | @agg vs ds hl hone _ ih =>
    refine ⟨fun h => by simp [Value.oneCell'] at h, .agg (by simpa using hl) hone (fun j v d hv hd => ?_)⟩
    rw [List.getElem?_map] at hd
    cases hj : ds[j]? with
    | none => rw [hj] at hd; cases hd
    | some e => rw [hj] at hd; simp at hd; subst hd; exact (ih j v e hv hj).1 (hone v (List.mem_of_getElem? hv))
  | @fn f vs ds hl hcap hh ih =>
    have key : RepV A' os' w' (.func f #[] vs.toArray) (jk0 J (.fn f ds)) := by
      simp only [jk0]
      split
      · exact .imm .junk
      · rename_i hb
        refine .fn hl hcap (fun j v d hv hd => ?_)
        have h2 := (ih j v d hv hd).2
        have hc := hcap d (List.mem_of_getElem? hd)
        have hbd : jkC J d = false := by
          cases hq : jkC J d
          · rfl
          · rw [List.any_eq_false] at hb
            exact absurd hq (hb d (List.mem_of_getElem? hd))
        cases d
        case lp q o =>
          have e1 : J.contains q = false := hbd
          simp only [jkT, jk0, e1] at h2
          exact h2
        case fn g cs =>
          have : cs = [] := by cases cs <;> simp_all [isCap, plainCap]
          subst this
          exact h2
        all_goals first | exact h2 | (simp [isCap, plainCap] at hc)
    exact ⟨fun _ => key, key⟩
  | wh _ h0 ih => exact ⟨fun h1 => .wh (fun hb => (ih hb).1 h1) h0, .wh (fun hb => (ih hb).2) h0⟩
end
end Go.Lift
