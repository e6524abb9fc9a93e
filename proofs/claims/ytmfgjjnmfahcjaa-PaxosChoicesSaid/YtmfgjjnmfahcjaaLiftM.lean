/- A data-level logic for the model: what a body does to data; its soundness (part LiftM). No conditions. -/
import Derived.Test.YtmfgjjnmfahcjaaLiftL
import Derived.Test.YtmfgjjnmfahcjaaLiftG2
set_option linter.unusedSimpArgs false
set_option linter.unusedVariables false
namespace Go.Lift
open Go

/-! # Regions whose order is drawn: one operation -/
section
variable {P : Program} {tt : TT} {A0 : Nat → Prop} {w0 : Home} {n : Nat} {os : Objs} {s s' : DS} {a : Act} {w : World} {o : Oper} {A : Nat → Prop} {B : Home} {ρ : Operand → DV} {loc loc' : List LObj} {Q : Option Prop → DV → Prop} {ops : Array Oper}

theorem refs_bare (x : Operand) : refs (bare s x) = refs (ev s x) := by
  unfold bare strip
  generalize ev s x = d
  cases d <;> rfl
theorem dval_loc {op : Op} (hl : ∀ x ∈ op.operands.toList, ∀ k ∈ refs (ρ x), lget loc' k = lget loc k) (h : dval tt loc op ρ Q) : dval tt loc' op ρ Q := by
  cases op
  case nilCheck x =>
    have hx := hl x (by simp [Op.operands])
    have h : dNilCheck loc (ρ x) Q := h
    show dNilCheck loc' (ρ x) Q
    generalize ρ x = d at *
    cases d
    case rp j k off =>
      have e := hx j (by simp [refs, refs0])
      unfold dNilCheck at h ⊢
      simp only [e]
      exact h
    case fn f c => cases f <;> exact h
    all_goals exact h
  case fieldAddr t x f =>
    have hx := hl x (by simp [Op.operands])
    have h : dFieldAddr tt loc t f (ρ x) Q := h
    show dFieldAddr tt loc' t f (ρ x) Q
    generalize ρ x = d at *
    cases d
    case rp j k off =>
      have e := hx j (by simp [refs, refs0])
      unfold dFieldAddr at h ⊢
      simp only [e]
      exact h
    all_goals exact h
  case indexAddr t x i =>
    have hx := hl x (by simp [Op.operands])
    have h : dIndexAddr tt loc t i (ρ x) (ρ i) Q := h
    show dIndexAddr tt loc' t i (ρ x) (ρ i) Q
    generalize ρ x = d at *
    cases d
    case own j =>
      have e := hx j (by simp [refs, refs0])
      unfold dIndexAddr dIndexSlc at h ⊢
      simp only [e]
      exact h
    all_goals exact h
  case load t x =>
    have hx := hl x (by simp [Op.operands])
    have h : dLoad tt loc t (ρ x) Q := h
    show dLoad tt loc' t (ρ x) Q
    generalize ρ x = d at *
    cases d
    case lp j off =>
      have e := hx j (by simp [refs, refs0])
      unfold dLoad at h ⊢
      simp only [e]
      exact h
    case ap j off =>
      have e := hx j (by simp [refs, refs0])
      unfold dLoad at h ⊢
      simp only [e]
      exact h
    case rp j k off =>
      have e := hx j (by simp [refs, refs0])
      unfold dLoad at h ⊢
      simp only [e]
      exact h
    all_goals exact h
  case call c =>
    obtain ⟨callee, args, ats⟩ := c
    cases callee
    case builtin b =>
      cases b
      case len =>
        have h : (match args.toList, ats.toList with
          | [x], [t] => dLen tt loc t (ρ x) Q
          | _, _ => False) := h
        show (match args.toList, ats.toList with
          | [x], [t] => dLen tt loc' t (ρ x) Q
          | _, _ => False)
        split at h
        · rename_i x t e1 e2
          have hx := hl x (by simp [Op.operands, Call.operands]; rw [← Array.mem_toList_iff, e1]; simp)
          generalize ρ x = d at *
          cases d
          case own j =>
            have e := hx j (by simp [refs, refs0])
            unfold dLen at h ⊢
            simp only [e]
            exact h
          all_goals exact h
        · exact h.elim
      all_goals exact h
    all_goals exact h
  all_goals exact h

theorem lendC_loc {d : DV} {R : DV → Prop} (h : lendC loc d R) : ∃ d', R d' ∧ ∀ loc', (∀ k ∈ refsC d, lget loc' k = lget loc k) → ∀ R' : DV → Prop, R' d' → lendC loc' d R' := by
  cases d
  case lp j o =>
    unfold lendC at h
    simp only at h
    split at h
    · rename_i t cs hg
      split at h
      · rename_i hpl
        refine ⟨_, h, fun loc' hl R' hR' => ?_⟩
        have hj := hl j (by simp [refsC])
        unfold lendC
        simp only [hj, hg, hpl]
        exact hR'
      · exact h.elim
    · exact h.elim
  all_goals exact ⟨_, h, fun _ _ _ h' => h'⟩
theorem lendCs_loc : ∀ {ds : List DV} {R : List DV → Prop}, lendCs loc ds R → ∃ l, R l ∧ ∀ loc', (∀ d ∈ ds, ∀ k ∈ refsC d, lget loc' k = lget loc k) → ∀ R' : List DV → Prop, R' l → lendCs loc' ds R'
  | [], R, h => ⟨_, h, fun _ _ _ h' => h'⟩
  | d :: r, R, h => by
    obtain ⟨d', h, k1⟩ := lendC_loc h
    obtain ⟨l, h, k2⟩ := lendCs_loc h
    exact ⟨_, h, fun loc' hl R' h' => k1 loc' (hl d (by simp)) _ (k2 loc' (fun d hd => hl d (by simp [hd])) _ h')⟩
theorem lend0_loc {d : DV} {R : DV → Prop} (h : lend0 loc d R) : ∃ d', R d' ∧ ∀ loc', (∀ k ∈ refs0 d, lget loc' k = lget loc k) → ∀ R' : DV → Prop, R' d' → lend0 loc' d R' := by
  cases d
  case own j =>
    unfold lend0 at h
    simp only at h
    split at h
    · rename_i e sz es hg
      refine ⟨_, h, fun loc' hl R' hR' => ?_⟩
      have hj := hl j (by simp [refs0])
      unfold lend0
      simp only [hj, hg]
      exact hR'
    · exact h.elim
  case lp j o =>
    unfold lend0 at h
    simp only at h
    split at h
    · rename_i t cs hg
      split at h
      · rename_i hpl
        refine ⟨_, h, fun loc' hl R' hR' => ?_⟩
        have hj := hl j (by simp [refs0])
        unfold lend0
        simp only [hj, hg, hpl]
        exact hR'
      · exact h.elim
    · exact h.elim
  case fn f caps =>
    have h : lendCs loc caps (fun l => R (.fn f l)) := h
    obtain ⟨l, h, k⟩ := lendCs_loc h
    exact ⟨_, h, fun loc' hl R' h' => k loc' (fun d hd q hq => hl q (by simp only [refs0, List.mem_flatMap]; exact ⟨d, hd, hq⟩)) (fun l => R' (.fn f l)) h'⟩
  all_goals first | exact h.elim | exact ⟨_, h, fun _ _ _ h' => h'⟩
theorem lendL_loc : ∀ {ds : List DV} {R : List DV → Prop}, lendL loc ds R → ∃ l, R l ∧ ∀ loc', (∀ d ∈ ds, ∀ k ∈ refs0 d, lget loc' k = lget loc k) → ∀ R' : List DV → Prop, R' l → lendL loc' ds R'
  | [], R, h => ⟨_, h, fun _ _ _ h' => h'⟩
  | d :: r, R, h => by
    obtain ⟨d', h, k1⟩ := lend0_loc h
    obtain ⟨l, h, k2⟩ := lendL_loc h
    exact ⟨_, h, fun loc' hl R' h' => k1 loc' (hl d (by simp)) _ (k2 loc' (fun d hd => hl d (by simp [hd])) _ h')⟩
theorem lend_loc {d : DV} {R : DV → Prop} (h : lend loc d R) : ∃ d', R d' ∧ ∀ loc', (∀ k ∈ refs d, lget loc' k = lget loc k) → ∀ R' : DV → Prop, R' d' → lend loc' d R' := by
  cases d
  case agg cs =>
    obtain ⟨l, h, k⟩ := lendL_loc (ds := cs) h
    exact ⟨_, h, fun loc' hl R' h' => k loc' (fun d hd k hk => hl k (by simp only [refs, List.mem_flatMap]; exact ⟨d, hd, hk⟩)) _ h'⟩
  case wh => exact h.elim
  all_goals exact lend0_loc h
theorem lendA_loc : ∀ {ds : List DV} {R : List DV → Prop}, lendA loc ds R → ∃ l, R l ∧ ∀ loc', (∀ d ∈ ds, ∀ k ∈ refs d, lget loc' k = lget loc k) → ∀ R' : List DV → Prop, R' l → lendA loc' ds R'
  | [], R, h => ⟨_, h, fun _ _ _ h' => h'⟩
  | d :: r, R, h => by
    obtain ⟨d', h, k1⟩ := lend_loc h
    obtain ⟨l, h, k2⟩ := lendA_loc h
    exact ⟨_, h, fun loc' hl R' h' => k1 loc' (hl d (by simp)) _ (k2 loc' (fun d hd => hl d (by simp [hd])) _ h')⟩

theorem oblAll_ok2 {g : Bool} : ∀ {l : List Operand} {R : Option Prop → Prop}, oblAll g s l R → ∃ c, R c ∧ ∀ {A : Nat → Prop} {os : Objs} {a : Act} {w : World}, (∀ x ∈ l, RepV A os w (a.eval x) (ev s x)) → Holds c → g = true → ∀ x ∈ l, RepV A os w (a.eval x) (bare s x)
  | [], R, hR => ⟨_, hR, fun _ _ _ x hx => by simp at hx⟩
  | x :: r, R, hR => by
    unfold oblAll at hR
    split at hR
    · rename_i g' d e
      obtain ⟨c, hR, hc⟩ := oblAll_ok2 hR
      refine ⟨_, hR, fun hx hh hg y hy => ?_⟩
      obtain ⟨h1, h2⟩ := Holds.andO.1 hh
      rcases List.mem_cons.1 hy with rfl | hy
      · have := hx y (by simp)
        unfold bare
        rw [e] at this ⊢
        exact this.wh_inv.1 (Holds.some_iff.1 h1 hg)
      · exact hc (fun x hm => hx x (by simp [hm])) h2 hg y hy
    · rename_i hnw
      obtain ⟨c, hR, hc⟩ := oblAll_ok2 hR
      refine ⟨_, hR, fun hx hh hg y hy => ?_⟩
      rcases List.mem_cons.1 hy with rfl | hy
      · have : bare s y = ev s y := by
          unfold bare
          generalize ev s y = d at hnw
          cases d <;> first | rfl | exact absurd rfl (hnw _ _)
        rw [this]
        exact hx y (by simp)
      · exact hc (fun x hm => hx x (by simp [hm])) hh hg y hy

theorem putK_app {dst : Option Tmp} {d : DV} {rd : List Nat} {mv : List (Nat × Nat)} : putK s dst d (fun s'' => s'' = TE.app ⟨dputs dst d, rd, [], mv⟩ s) := by
  refine putK_iff.2 ?_
  cases s; cases dst <;> rfl
theorem putK_app' {dst : Option Tmp} {d : DV} {rd : List Nat} {k : Nat} {ob : LObj} {mv : List (Nat × Nat)} : putK ⟨s.env, lset s.loc k ob⟩ dst d (fun s'' => s'' = TE.app ⟨dputs dst d, rd, [(k, ob)], mv⟩ s) := by
  refine putK_iff.2 ?_
  cases s; cases dst <;> rfl

/-! ## a new object in a place that was kept for it -/
def AlikeL (os os' : Objs) : Prop := ∀ (i : Nat) (x : Value) (o : LObj), o ≠ .dead → os[i]? = some (x, o) → ∃ o', os'[i]? = some (x, o') ∧ kindIs o o'
theorem RepV.keepL {A A' : Nat → Prop} {os' : Objs} {w' : World} (k : Keeps A A' w w') (ha : AlikeL os os') {x : Value} {d : DV} (h : RepV A os w x d) : RepV A' os' w' x d := by
  induction h with
  | imm h => exact .imm (h.keep k)
  | lp h =>
    obtain ⟨o', h', hk⟩ := ha _ _ _ (by simp) h
    cases o' <;> simp [kindIs] at hk
    exact .lp h'
  | ap h =>
    obtain ⟨o', h', hk⟩ := ha _ _ _ (by simp) h
    cases o' <;> simp [kindIs] at hk
    exact .ap h'
  | rp h =>
    obtain ⟨o', h', hk⟩ := ha _ _ _ (by simp) h
    cases o' <;> simp [kindIs] at hk
    obtain ⟨rfl, rfl⟩ := hk
    exact .rp h'
  | own h h1 =>
    obtain ⟨o', h', hk⟩ := ha _ _ _ (by simp) h
    cases o' <;> simp [kindIs] at hk
    exact .own h' h1
  | stale h hd h1 =>
    obtain ⟨o', h', hk⟩ := ha _ _ _ (by simp) h
    cases o' <;> simp [kindIs] at hk
    exact .stale h' hd h1
  | agg hl hone _ ih => exact .agg hl hone ih
  | fn hl hcap _ ih => exact .fn hl hcap ih
  | wh _ h0 ih => exact .wh ih h0
theorem ObjOk.keepL {A A' : Nat → Prop} {os os' : Objs} {B : Home} {w w' : World} {x : Value} {ob : LObj} (h : ObjOk A os B w x ob) (k : Keeps A A' w w') (ha : AlikeL os os') (hb : ∀ b, ob ≠ .dead → blk x = some b → w'.heap[b]? = w.heap[b]?) : ObjOk A' os' B w' x ob := by
  cases ob with
  | dead => exact trivial
  | gone => exact h
  | gh ds => exact ⟨h.1, h.2.1, h.2.2.1, fun i v d hv hd => (h.2.2.2 i v d hv hd).keepL k ha⟩
  | cells t cs =>
    obtain ⟨g, arr, rfl, hB, hh, hs, hone, hr⟩ := h
    exact ⟨g, arr, rfl, hB, (hb g (by simp) rfl).trans hh, hs, hone, fun j v d hv hd => (hr j v d hv hd).keepL k ha⟩
  | row e sz es =>
    obtain ⟨hmine, xs, hown, hsz, hrl, hone, hr⟩ := h
    refine ⟨hmine, xs, ⟨hown.1, ?_⟩, hsz, hrl, hone, fun k' j r d h1 h2 => ?_⟩
    · rcases hown.2 with hn | ⟨g, cap, cur, rfl, hB, hh, rest⟩
      · exact .inl hn
      · exact .inr ⟨g, cap, cur, rfl, hB, (hb g (by simp) rfl).trans hh, rest⟩
    · obtain ⟨v, hv, hi⟩ := hr k' j r d h1 h2
      exact ⟨v, hv, hi.keep k⟩
theorem Rep.revive {w' : World} {i : Nat} {x y : Value} {ob : LObj} (h : Rep A0 w0 n os s a w) (hi : os[i]? = some (y, .dead)) (hg : w.grownBy w' none) (hnew : ∀ b, blk x = some b → w.heap.size ≤ b)
    (hob : Keeps (avoid A0 os) (avoid A0 (os.set i (x, ob))) w w' → AlikeL os (os.set i (x, ob)) → ObjOk (avoid A0 (os.set i (x, ob))) (os.set i (x, ob)) w0 w' x ob) : Rep A0 w0 n (os.set i (x, ob)) ⟨s.env, lset s.loc i ob⟩ a w' := by
  have hlt := (List.getElem?_eq_some_iff.1 hi).1
  have hget : ∀ {j : Nat} {y : Value} {o' : LObj}, (os.set i (x, ob))[j]? = some (y, o') → (j = i ∧ y = x ∧ o' = ob) ∨ (j ≠ i ∧ os[j]? = some (y, o')) := by
    intro j y o' hj
    by_cases e : j = i
    · subst e
      rw [List.getElem?_set_self hlt] at hj
      cases hj
      exact .inl ⟨rfl, rfl, rfl⟩
    · rw [List.getElem?_set_ne (fun e' => e e'.symm)] at hj
      exact .inr ⟨e, hj⟩
  have k : Keeps (avoid A0 os) (avoid A0 (os.set i (x, ob))) w w' := .grown hg (fun b hb hv => by
    rcases hv with hv | ⟨j, y, o', hj, hdd, hbb⟩
    · exact .inl hv
    · rcases hget hj with ⟨rfl, rfl, rfl⟩ | ⟨_, hj⟩
      · have := hnew b hbb; omega
      · exact .inr ⟨_, _, _, hj, hdd, hbb⟩)
  have halike : AlikeL os (os.set i (x, ob)) := by
    intro j y o' hd hj
    by_cases e : j = i
    · subst e
      rw [hi] at hj
      cases hj
      exact absurd rfl hd
    · exact ⟨o', by rw [List.getElem?_set_ne (fun e' => e e'.symm)]; exact hj, by cases o' <;> simp [kindIs]⟩
  refine ⟨h.size, h.defers, Grown.trans' h.gr hg (fun _ e => by cases e), h.a0, by rw [lset_eq, h.loc, List.map_set], fun t => (h.env t).keepL k halike, fun j y o' hj => ?_, fun j1 j2 y o1 z o2 b h1 h2 d1 d2 b1 b2 => ?_⟩
  · rcases hget hj with ⟨rfl, rfl, rfl⟩ | ⟨hne, hj⟩
    · exact hob k halike
    · exact (h.obj j y o' hj).keepL k halike (fun b hdd hb => hg.block b ((h.obj j y o' hj).blk_ge hdd hb).2 (by simp))
  · rcases hget h1 with ⟨rfl, rfl, rfl⟩ | ⟨_, g1⟩ <;> rcases hget h2 with ⟨rfl, rfl, rfl⟩ | ⟨_, g2⟩
    · rfl
    · have := hnew b b1
      have := ((h.obj _ _ _ g2).blk_ge d2 b2).2
      omega
    · have := hnew b b2
      have := ((h.obj _ _ _ g1).blk_ge d1 b1).2
      omega
    · exact h.inj _ _ _ _ _ _ b g1 g2 d1 d2 b1 b2
/-- a row that grew stands in a new place, the old one is gone -/
def AlikeG (i : Nat) (os os' : Objs) : Prop := (∃ x e sz es, os[i]? = some (x, .row e sz es)) ∧ (∃ y, os'[i]? = some (y, .gone)) ∧ ∀ (j : Nat) (x : Value) (o : LObj), j ≠ i → o ≠ .dead → os[j]? = some (x, o) → ∃ o', os'[j]? = some (x, o') ∧ kindIs o o'
theorem RepV.keepG {A A' : Nat → Prop} {os' : Objs} {w' : World} {i : Nat} (k : Keeps A A' w w') (ha : AlikeG i os os') {x : Value} {d : DV} (h : RepV A os w x d) : RepV A' os' w' x d := by
  obtain ⟨⟨xi, ei, szi, esi, hi⟩, ⟨yi, hi'⟩, ha⟩ := ha
  induction h with
  | imm h => exact .imm (h.keep k)
  | lp h =>
    obtain ⟨o', h', hk⟩ := ha _ _ _ (fun e => by subst e; rw [hi] at h; cases h) (by simp) h
    cases o' <;> simp [kindIs] at hk
    exact .lp h'
  | ap h =>
    obtain ⟨o', h', hk⟩ := ha _ _ _ (fun e => by subst e; rw [hi] at h; cases h) (by simp) h
    cases o' <;> simp [kindIs] at hk
    exact .ap h'
  | @rp j _ _ _ _ _ _ _ _ h =>
    by_cases e : j = i
    · subst e
      exact .stale hi' (.inr ⟨_, _, rfl⟩) rfl
    · obtain ⟨o', h', hk⟩ := ha _ _ _ e (by simp) h
      cases o' <;> simp [kindIs] at hk
      obtain ⟨rfl, rfl⟩ := hk
      exact .rp h'
  | @own j _ _ _ _ h h1 =>
    by_cases e : j = i
    · subst e
      exact .stale hi' (.inl rfl) h1
    · obtain ⟨o', h', hk⟩ := ha _ _ _ e (by simp) h
      cases o' <;> simp [kindIs] at hk
      exact .own h' h1
  | @stale j _ _ _ h hd h1 =>
    obtain ⟨o', h', hk⟩ := ha _ _ _ (fun e => by subst e; rw [hi] at h; cases h) (by simp) h
    cases o' <;> simp [kindIs] at hk
    exact .stale h' hd h1
  | agg hl hone _ ih => exact .agg hl hone ih
  | fn hl hcap _ ih => exact .fn hl hcap ih
  | wh _ h0 ih => exact .wh ih h0
theorem ObjOk.keepG {A A' : Nat → Prop} {os os' : Objs} {B : Home} {w w' : World} {i : Nat} {x : Value} {ob : LObj} (h : ObjOk A os B w x ob) (k : Keeps A A' w w') (ha : AlikeG i os os') (hb : ∀ b, ob ≠ .dead → blk x = some b → w'.heap[b]? = w.heap[b]?) : ObjOk A' os' B w' x ob := by
  cases ob with
  | dead => exact trivial
  | gone => exact h
  | gh ds => exact ⟨h.1, h.2.1, h.2.2.1, fun i v d hv hd => (h.2.2.2 i v d hv hd).keepG k ha⟩
  | cells t cs =>
    obtain ⟨g, arr, rfl, hB, hh, hs, hone, hr⟩ := h
    exact ⟨g, arr, rfl, hB, (hb g (by simp) rfl).trans hh, hs, hone, fun j v d hv hd => (hr j v d hv hd).keepG k ha⟩
  | row e sz es =>
    obtain ⟨hmine, xs, hown, hsz, hrl, hone, hr⟩ := h
    refine ⟨hmine, xs, ⟨hown.1, ?_⟩, hsz, hrl, hone, fun k' j r d h1 h2 => ?_⟩
    · rcases hown.2 with hn | ⟨g, cap, cur, rfl, hB, hh, rest⟩
      · exact .inl hn
      · exact .inr ⟨g, cap, cur, rfl, hB, (hb g (by simp) rfl).trans hh, rest⟩
    · obtain ⟨v, hv, hi⟩ := hr k' j r d h1 h2
      exact ⟨v, hv, hi.keep k⟩
theorem Rep.regrow {w' : World} {i q e e' sz sz' : Nat} {es es' : List (List DV)} {x y x' : Value} {xs : List Value} (h : Rep A0 w0 n os s a w) (hi : os[i]? = some (x, .row e sz es)) (hq : os[q]? = some (y, .dead)) (hg : w.grownBy w' (blk x)) (hb : ∀ b, blk x' = some b → blk x = some b ∨ w.heap.size ≤ b)
    (hown : w'.ownsRow 0 e' sz' x' es'.length xs) (hsz : 0 < sz') (hr : RowRep (avoid A0 os) w xs es' sz') :
    Rep A0 w0 n ((os.set i (.nilFunc, .gone)).set q (x', .row e' sz' es')) ⟨s.env, lset (lset s.loc i .gone) q (.row e' sz' es')⟩ a w' ∧ ((os.set i (.nilFunc, .gone)).set q (x', .row e' sz' es'))[q]? = some (x', .row e' sz' es') := by
  have hne : i ≠ q := fun e => by subst e; rw [hi] at hq; cases hq
  have hlti := (List.getElem?_eq_some_iff.1 hi).1
  have hltq := (List.getElem?_eq_some_iff.1 hq).1
  have hself : ((os.set i (.nilFunc, .gone)).set q (x', .row e' sz' es'))[q]? = some (x', .row e' sz' es') := by rw [List.getElem?_set_self (by simpa using hltq)]
  have hgone : ((os.set i (.nilFunc, .gone)).set q (x', .row e' sz' es'))[i]? = some (.nilFunc, .gone) := by rw [List.getElem?_set_ne (fun e => hne e.symm), List.getElem?_set_self hlti]
  generalize hos : (os.set i (.nilFunc, .gone)).set q (x', .row e' sz' es') = os' at hself hgone ⊢
  refine ⟨?_, hself⟩
  have hget : ∀ {j : Nat} {z : Value} {o' : LObj}, os'[j]? = some (z, o') → (j = q ∧ z = x' ∧ o' = .row e' sz' es') ∨ (j = i ∧ z = .nilFunc ∧ o' = .gone) ∨ (j ≠ i ∧ j ≠ q ∧ os[j]? = some (z, o')) := by
    intro j z o' hj
    by_cases e1 : j = q
    · subst e1; rw [hself] at hj; cases hj; exact .inl ⟨rfl, rfl, rfl⟩
    · by_cases e2 : j = i
      · subst e2; rw [hgone] at hj; cases hj; exact .inr (.inl ⟨rfl, rfl, rfl⟩)
      · rw [← hos, List.getElem?_set_ne (fun e' => e1 e'.symm), List.getElem?_set_ne (fun e' => e2 e'.symm)] at hj
        exact .inr (.inr ⟨e2, e1, hj⟩)
  have ha : AlikeG i os os' := by
    refine ⟨⟨_, _, _, _, hi⟩, ⟨_, hgone⟩, fun j z o hj hd ho => ⟨o, ?_, by cases o <;> simp [kindIs]⟩⟩
    have : j ≠ q := fun e => by subst e; rw [hq] at ho; cases ho; exact hd rfl
    rw [← hos, List.getElem?_set_ne (fun e' => this e'.symm), List.getElem?_set_ne (fun e' => hj e'.symm)]
    exact ho
  have hav : ∀ b, b < w.heap.size → avoid A0 os' b → avoid A0 os b := by
    intro b hbl hv
    rcases hv with hv | ⟨j, z, o', hj, hdd, hbb⟩
    · exact .inl hv
    · rcases hget hj with ⟨rfl, rfl, rfl⟩ | ⟨rfl, rfl, rfl⟩ | ⟨_, _, hj⟩
      · rcases hb b hbb with h1 | h1
        · exact .inr ⟨i, _, _, hi, by simp, h1⟩
        · omega
      · simp [blk] at hbb
      · exact .inr ⟨_, _, _, hj, hdd, hbb⟩
  have k : Keeps (avoid A0 os) (avoid A0 os') w w' := ⟨hg.size, hav, fun b hbl hn => hg.block b hbl (fun e => hn (.inr ⟨i, x, _, hi, by simp, e.symm⟩))⟩
  refine ⟨h.size, h.defers, Grown.trans' h.gr hg (fun g e => ((h.obj i x _ hi).blk_ge (by simp) e).1), h.a0, by rw [← hos, lset_eq, lset_eq, h.loc, List.map_set, List.map_set], fun t => (h.env t).keepG k ha, fun j z o' hj => ?_, fun j1 j2 z o1 z2 o2 b h1 h2 d1 d2 b1 b2 => ?_⟩
  · rcases hget hj with ⟨rfl, rfl, rfl⟩ | ⟨rfl, rfl, rfl⟩ | ⟨hne1, _, hj⟩
    · exact row_obj (fun b hbb => (hb b hbb).elim (fun h1 => ((h.obj _ _ _ hi).blk_ge (by simp) h1).1) (Home.mine_new h.gr)) hown hsz (hr.keep k)
    · exact rfl
    · exact (h.obj j z o' hj).keepG k ha (fun b hdd hbb => hg.block b ((h.obj j z o' hj).blk_ge hdd hbb).2 (fun e => hne1 (h.inj j i _ _ _ _ b hj hi hdd (by simp) hbb e.symm)))
  · have one : ∀ {j z o'}, os'[j]? = some (z, o') → o' ≠ .dead → blk z = some b → (j = q ∧ (blk x = some b ∨ w.heap.size ≤ b)) ∨ (j ≠ i ∧ os[j]? = some (z, o') ∧ b < w.heap.size) := by
      intro j z o' hj hd hbb
      rcases hget hj with ⟨rfl, rfl, rfl⟩ | ⟨rfl, rfl, rfl⟩ | ⟨hne1, _, hj⟩
      · exact .inl ⟨rfl, hb b hbb⟩
      · simp [blk] at hbb
      · exact .inr ⟨hne1, hj, ((h.obj _ _ _ hj).blk_ge hd hbb).2⟩
    rcases one h1 d1 b1 with ⟨rfl, p1⟩ | ⟨n1, g1, l1⟩ <;> rcases one h2 d2 b2 with ⟨rfl, p2⟩ | ⟨n2, g2, l2⟩
    · rfl
    · rcases p1 with p1 | p1
      · exact absurd (h.inj _ _ _ _ _ _ b g2 hi d2 (by simp) b2 p1) n2
      · omega
    · rcases p2 with p2 | p2
      · exact absurd (h.inj _ _ _ _ _ _ b g1 hi d1 (by simp) b1 p2) n1
      · omega
    · exact h.inj _ _ _ _ _ _ b g1 g2 d1 d2 b1 b2
theorem putK_app2 {dst : Option Tmp} {d : DV} {rd : List Nat} {k k' : Nat} {ob ob' : LObj} {mv : List (Nat × Nat)} : putK ⟨s.env, lset (lset s.loc k ob) k' ob'⟩ dst d (fun s'' => s'' = TE.app ⟨dputs dst d, rd, [(k, ob), (k', ob')], mv⟩ s) := by
  refine putK_iff.2 ?_
  cases s; cases dst <;> rfl
theorem free_os {i : Nat} (h : Rep A0 w0 n os s a w) (hl : lget s.loc i = .dead) (hi : i < s.loc.length) : ∃ y, os[i]? = some (y, .dead) := by
  rw [h.len] at hi
  rw [lget_eq, h.loc, List.getElem?_map, List.getElem?_eq_getElem hi] at hl
  simp only [Option.map_some, Option.getD_some] at hl
  exact ⟨os[i].1, by rw [List.getElem?_eq_getElem hi, ← hl]⟩
theorem freeAt_iff {l : List LObj} {i : Nat} (h : freeAt l i = true) : i < l.length ∧ lget l i = .dead := by
  simp only [freeAt, Bool.and_eq_true] at h
  refine ⟨Nat.le_of_ble_eq_true h.1, ?_⟩
  generalize lget l i = o at h
  cases o <;> first | rfl | (simp [isDead] at h)

/-! ## the operation, in whatever state it finds -/
def Runs (P : Program) (A0 : Nat → Prop) (w0 : Home) (n : Nat) (o : Oper) (te : TE) (s : DS) (E : Exit → Act → World → Prop) : Prop :=
  ∀ (os' : Objs) (s' : DS) (a : Act) (w : World), Rep A0 w0 n os' s' a w → (∀ x ∈ o.op.operands.toList, ev s' x = ev s x) → (∀ k, (k ∈ te.rd ∨ te.obj k) → lget s'.loc k = lget s.loc k) → s'.loc.length = s.loc.length →
    o.wp P a w (Nx A0 w0 n fun s'' => s'' = te.app s') E
variable {E : Exit → Act → World → Prop} {idx : Nat}
theorem refs_in {l : List Operand} {x : Operand} {k : Nat} (hx : x ∈ l) (hk : k ∈ refs (ρ x)) : k ∈ opRefs ρ l := List.mem_flatMap.2 ⟨x, hx, hk⟩
theorem runs_val (hT : tabOk P tt = true) (h0 : (tinfo tt 0).size = 0) (hd : ∀ t, o.dst = some t → t < n) {wrap : DV → DV} {c : Option Prop} {d : DV}
    (hgen : ∀ Q' : Option Prop → DV → Prop, Q' c d → dval tt s.loc o.op ρ Q') (hc : Holds c)
    (hop : ∀ {os : Objs} {a : Act} {w : World}, (∀ x ∈ o.op.operands.toList, RepV (avoid A0 os) os w (a.eval x) (ev s x)) → ∀ x ∈ o.op.operands.toList, RepV (avoid A0 os) os w (a.eval x) (ρ x))
    (hw : ∀ {os : Objs} {w : World} {x : Value} {d : DV}, RepV (avoid A0 os) os w x d → RepV (avoid A0 os) os w x (wrap d)) :
    Runs P A0 w0 n o ⟨dputs o.dst (wrap d), opRefs ρ o.op.operands.toList, [], []⟩ s E := by
  intro os' s' a w hr he hl _
  have h1 := hgen (fun c' d' => c' = c ∧ d' = d) ⟨rfl, rfl⟩
  have h2 : dval tt s'.loc o.op ρ (fun c' d' => c' = c ∧ d' = d) := dval_loc (fun x hx k hk => hl k (.inl (refs_in hx hk))) h1
  rw [hr.loc] at h2
  obtain ⟨_, _, ⟨rfl, rfl⟩, hg⟩ := dval_ok hT h0 hr.obj (a := a) (hop (fun x hx => by rw [← he x hx]; exact hr.ev x)) h2
  obtain ⟨x, hrun, hrx⟩ := hg hc
  exact wp_value hrun (Nx.put hr hd (hw hrx) putK_app)

theorem call_go {f : Operand} {k : FuncId} {caps : List DV} {args : Array Operand} {ats : Array TypeId} {wrap : DV → DV} {K : DS → Prop} (ho : o.op = .call { callee := .value f, args := args, argTypes := ats }) (h : Rep A0 w0 n os s a w) (hd : ∀ t, o.dst = some t → t < n)
    (hops : ∀ x ∈ o.op.operands.toList, RepV (avoid A0 os) os w (a.eval x) (ρ x)) (ef : ρ f = .fn (.func k) caps)
    (hw : ∀ {os : Objs} {w : World} {x : Value} {d : DV}, RepV (avoid A0 os) os w x d → RepV (avoid A0 os) os w x (wrap d))
    (hK : dcall P k (args.toList.map ρ ++ caps) s fun r s => putK s o.dst (wrap r) K) : o.wp P a w (Nx A0 w0 n K) E := by
  have hf := hops f (by rw [ho]; simp [Op.operands, Call.operands])
  rw [ef] at hf
  obtain ⟨vs, hv, hl, hp⟩ := hf.fn_inv
  obtain ⟨h1, h2⟩ := args_rep (os := os) (A := avoid A0 os) (w := w) (a := a) (l := args.toList) (ρ := ρ) rfl (fun x hx => hops x (by rw [ho]; simp only [Op.operands, Call.operands, Array.toList_append, List.mem_append]; exact .inr hx)) hl hp
  obtain ⟨hc, hcall⟩ := dcall_ok h h1 h2 hK
  unfold Oper.wp
  rw [call_exec ho hv hc]
  refine hcall.mono fun e w' he => ?_
  obtain ⟨v, r, os', s', rfl, hr, hrv, hk⟩ := he
  exact Nx.put hr hd (hw hrv) hk

theorem runs_call {f : Operand} {k : FuncId} {caps : List DV} {args : Array Operand} {ats : Array TypeId} {wrap : DV → DV} {l1 l' : List DV} {r : DV} (ho : o.op = .call { callee := .value f, args := args, argTypes := ats }) (hd : ∀ t, o.dst = some t → t < n)
    (hops : ∀ {os : Objs} {a : Act} {w : World}, (∀ x ∈ o.op.operands.toList, RepV (avoid A0 os) os w (a.eval x) (ev s x)) → ∀ x ∈ o.op.operands.toList, RepV (avoid A0 os) os w (a.eval x) (ρ x)) (ef : ρ f = .fn (.func k) caps)
    (hw : ∀ {os : Objs} {w : World} {x : Value} {d : DV}, RepV (avoid A0 os) os w x d → RepV (avoid A0 os) os w x (wrap d))
    (hgen : ∀ loc', (∀ d ∈ args.toList.map ρ ++ caps, ∀ k ∈ refs d, lget loc' k = lget s.loc k) → ∀ R' : List DV → Prop, R' l1 → lendA loc' (args.toList.map ρ ++ caps) R')
    (hle : DleAll l1 l') (hret : Ret P k l' r) (hs : owns (args.toList.map ρ ++ caps) = [] ∨ scalar r = true) :
    Runs P A0 w0 n o ⟨dputs o.dst (wrap r), opRefs ρ o.op.operands.toList ++ caps.flatMap refs, [], []⟩ s E := by
  intro os' s' a w hr he hl _
  refine call_go ho hr hd (hops (fun x hx => by rw [← he x hx]; exact hr.ev x)) ef hw (wrap := wrap) ?_
  unfold dcall
  refine hgen _ (fun d hdm k hk => hl k (.inl ?_)) _ ⟨l', r, hle, hret, ?_⟩
  · rcases List.mem_append.1 hdm with hdm | hdm
    · obtain ⟨x, hx, rfl⟩ := List.mem_map.1 hdm
      refine List.mem_append.2 (.inl (refs_in (x := x) ?_ hk))
      rw [ho]
      simp only [Op.operands, Call.operands, Array.toList_append, List.mem_append]
      exact .inr hx
    · exact List.mem_append.2 (.inr (List.mem_flatMap.2 ⟨d, hdm, hk⟩))
  · rcases hs with hs | hs
    · rw [hs]; exact putK_app
    · cases owns (args.toList.map ρ ++ caps) with
      | nil => exact putK_app
      | cons d ds => simp only [hs]; exact putK_app

theorem runs_alloc (hT : tabOk P tt = true) {t : TypeId} (ho : o.op = .alloc t) (hd : ∀ t, o.dst = some t → t < n) (hs : (tinfo tt t).size ≠ 0) (hf : freeAt s.loc idx = true) :
    Runs P A0 w0 n o ⟨dputs o.dst (.lp idx 0), [], [(idx, .cells t (tinfo tt t).zero)], []⟩ s E := by
  intro os' s' a w hr he hl hlen
  obtain ⟨hlt, hdead⟩ := freeAt_iff hf
  have hdead : lget s'.loc idx = .dead := (hl idx (.inr ⟨_, List.mem_cons_self⟩)).trans hdead
  obtain ⟨y, hi⟩ := free_os hr hdead (by omega)
  obtain ⟨z, hz, hzr, _⟩ := zero_run (A := avoid A0 os') (os := os') (w := w) hT hs
  have hp := hr.revive (x := .pointer (some ⟨w.heap.size, 0, none⟩)) (ob := .cells t (tinfo tt t).zero) (w' := w.alloc (.cells z.cells t)) hi (World.grownBy_alloc w _ none) (fun b hb => by simp [blk] at hb; omega)
    (fun k ha => ⟨w.heap.size, z.cells, rfl, Home.mine_new hr.gr (Nat.le_refl _), heap_alloc_new w _, hzr.size, hzr.one, fun i v d hv hd => (hzr.rep i v d hv hd).keepL k ha⟩)
  refine wp_value (x := .pointer (some ⟨w.heap.size, 0, none⟩)) (w' := w.alloc (.cells z.cells t)) ?_ (Nx.put hp hd (.lp (List.getElem?_set_self (List.getElem?_eq_some_iff.1 hi).1)) putK_app')
  simp only [execOp, ho, Instr.alloc, Sem.run_bind, hz, Result.andThen_ok, newVar, newRow, run_newObj, Sem.run_pure, World.alloc_eq]
end
end Go.Lift
