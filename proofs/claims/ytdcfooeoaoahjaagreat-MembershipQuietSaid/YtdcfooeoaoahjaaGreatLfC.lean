/- A data-level logic for the model: what a body does to data; its soundness (part LfC). No conditions. -/
import Derived.Test.YtdcfooeoaoahjaaGreatLfB
set_option linter.unusedSimpArgs false
set_option linter.unusedVariables false
namespace Go.Lift
open Go

section
variable {P : Program} {tt : TT} {A0 : Nat → Prop} {w0 : Home} {n : Nat} {os os' : Objs} {s : DS} {a : Act} {w : World} {o : Oper} {K : DS → Prop} {A : Nat → Prop} {pass : List Nat} {J : List Nat}

def HdIn (pass : List Nat) : DV → Prop
  | .own j | .lp j _ | .ap j _ | .rp j _ _ => j ∈ pass
  | _ => False
def LX0 (A0 : Nat → Prop) (os : Objs) (J pass : List Nat) (w : World) (v : Value) (d : DV) : Prop := Imm (avoidX A0 os J) w v d ∨ (HdIn pass d ∧ RepV (avoid A0 os) os w v d)
def LX (A0 : Nat → Prop) (os : Objs) (J pass : List Nat) (w : World) (v : Value) (d : DV) : Prop := LX0 A0 os J pass w v d ∨ ∃ (vs : List Value) (ds : List DV), v = .agg vs.toArray ∧ d = .agg ds ∧ vs.length = ds.length ∧ (∀ x ∈ vs, x.oneCell' = true) ∧ ∀ (i : Nat) x e, vs[i]? = some x → ds[i]? = some e → LX0 A0 os J pass w x e
theorem LX0.rep (h' : ∀ b, avoid A0 os' b → avoidX A0 os J b) (hk : ∀ (i : Nat) x o, i ∉ J → os[i]? = some (x, o) → ∃ o', os'[i]? = some (x, o') ∧ kindIs o o') (hpj : ∀ j ∈ pass, j ∉ J) {v : Value} {d : DV} (h : LX0 A0 os J pass w v d) : RepV (avoid A0 os') os' w v d := by
  rcases h with h | ⟨hp, h⟩
  · exact .imm (h.keep (Keeps.less h'))
  · cases h with
    | imm h => cases h <;> first | exact hp.elim | exact .imm .junk
    | lp h =>
      obtain ⟨o', h1, h2⟩ := hk _ _ _ (hpj _ hp) h
      cases o' <;> simp [kindIs] at h2
      exact .lp h1
    | ap h =>
      obtain ⟨o', h1, h2⟩ := hk _ _ _ (hpj _ hp) h
      cases o' <;> simp [kindIs] at h2
      exact .ap h1
    | rp h =>
      obtain ⟨o', h1, h2⟩ := hk _ _ _ (hpj _ hp) h
      cases o' <;> simp [kindIs] at h2
      obtain ⟨rfl, rfl⟩ := h2
      exact .rp h1
    | own h h0 =>
      obtain ⟨o', h1, h2⟩ := hk _ _ _ (hpj _ hp) h
      cases o' <;> simp [kindIs] at h2
      exact .own h1 h0
    | stale h hd h0 =>
      rcases hd with rfl | ⟨_, _, rfl⟩
      · obtain ⟨o', h1, h2⟩ := hk _ _ _ (hpj _ hp) h
        cases o' <;> simp [kindIs] at h2
        exact .stale h1 (.inl rfl) h0
      · obtain ⟨o', h1, h2⟩ := hk _ _ _ (hpj _ hp) h
        cases o' <;> simp [kindIs] at h2
        exact .stale h1 (.inr ⟨_, _, rfl⟩) h0
    | agg => exact hp.elim
    | tup => exact hp.elim
    | fn => exact hp.elim
    | wh => exact hp.elim
theorem LX.rep (h' : ∀ b, avoid A0 os' b → avoidX A0 os J b) (hk : ∀ (i : Nat) x o, i ∉ J → os[i]? = some (x, o) → ∃ o', os'[i]? = some (x, o') ∧ kindIs o o') (hpj : ∀ j ∈ pass, j ∉ J) {v : Value} {d : DV} (h : LX A0 os J pass w v d) : RepV (avoid A0 os') os' w v d := by
  rcases h with h | ⟨vs, ds, rfl, rfl, hl, hone, hp⟩
  · exact h.rep h' hk hpj
  · exact .agg hl hone (fun i x e hx he => (hp i x e hx he).rep h' hk hpj)
theorem lendX0_ok (h : Rep A0 w0 n os s a w) {v : Value} {d : DV} {Q : DV → Prop} (hr : RepV (avoid A0 os) os w v d) (hJ : ∀ e j, e ∈ own0 d → hIx e = some j → pass.contains j = false → j ∈ J) (hl : lendX0 pass s.loc d Q) : ∃ d', Q d' ∧ LX0 A0 os J pass w v d' := by
  have other : (∀ e j, e ∈ own0 d → hIx e = some j → j ∈ J) → lend0 s.loc d Q → ∃ d', Q d' ∧ LX0 A0 os J pass w v d' := fun hj hl => by
    obtain ⟨d', h1, h2⟩ := lend0_ok h hr hj hl
    exact ⟨d', h1, .inl h2⟩
  cases d with
  | own j =>
    simp only [lendX0] at hl
    split at hl
    · rename_i hc
      exact ⟨_, hl, .inr ⟨by simpa [HdIn] using hc, hr⟩⟩
    · rename_i hc
      exact other (fun e j' he hj => by
        simp only [own0, List.mem_singleton] at he
        subst he
        simp [hIx] at hj
        subst hj
        exact hJ (.own _) _ (by simp [own0]) rfl hc) hl
  | lp j off =>
    simp only [lendX0] at hl
    split at hl
    · rename_i hc
      exact ⟨_, hl, .inr ⟨by simpa [HdIn] using hc, hr⟩⟩
    · rename_i hc
      exact other (fun e j' he hj => by
        simp only [own0, List.mem_singleton] at he
        subst he
        simp [hIx] at hj
        subst hj
        exact hJ (.lp _ off) _ (by simp [own0]) rfl hc) hl
  | ap j off =>
    simp only [lendX0] at hl
    split at hl
    · rename_i hc
      exact ⟨_, hl, .inr ⟨by simpa [HdIn] using hc, hr⟩⟩
    · exact hl.elim
  | rp j kk off =>
    simp only [lendX0] at hl
    split at hl
    · rename_i hc
      exact ⟨_, hl, .inr ⟨by simpa [HdIn] using hc, hr⟩⟩
    · exact hl.elim
  | fn f caps =>
    simp only [lendX0] at hl
    split at hl
    · exact hl.elim
    · rename_i hc
      refine other (fun e j he hj => hJ e j he hj ?_) hl
      simp only [own0, List.mem_filter] at he
      rw [List.any_eq_false] at hc
      have := hc e he.1
      cases e <;> simp [isLp] at he
      simp [hIx] at hj
      subst hj
      simpa [jkC] using this
  | _ => exact other (fun e j he => by simp [own0] at he) hl
theorem lendXL_ok (h : Rep A0 w0 n os s a w) : ∀ (vs : List Value) (ds : List DV) {Q : List DV → Prop}, vs.length = ds.length → (∀ (i : Nat) v d, vs[i]? = some v → ds[i]? = some d → RepV (avoid A0 os) os w v d) → (∀ e j, e ∈ ds.flatMap own0 → hIx e = some j → pass.contains j = false → j ∈ J) →
    lendXL pass s.loc ds Q → ∃ ds', Q ds' ∧ vs.length = ds'.length ∧ ∀ (i : Nat) v d, vs[i]? = some v → ds'[i]? = some d → LX0 A0 os J pass w v d
  | [], [], Q, _, _, _, hl => ⟨[], hl, rfl, by simp⟩
  | [], _ :: _, Q, h1, _, _, _ => by simp at h1
  | _ :: _, [], Q, h1, _, _, _ => by simp at h1
  | v :: vs, d :: ds, Q, h1, hr, hJ, hl => by
    obtain ⟨d', hl, hi⟩ := lendX0_ok h (hr 0 v d rfl rfl) (fun e j he hj => hJ e j (by simp [List.flatMap_cons, he]) hj) hl
    obtain ⟨ds', hq, hlen, hp⟩ := lendXL_ok h vs ds (by simpa using h1) (fun i v d hv hd => hr (i + 1) v d (by simpa using hv) (by simpa using hd)) (fun e j he hj => hJ e j (by rw [List.flatMap_cons]; exact List.mem_append.2 (.inr he)) hj) hl
    refine ⟨d' :: ds', hq, by simp [hlen], fun i v' e hv he => ?_⟩
    cases i with
    | zero => simp at hv he; subst hv he; exact hi
    | succ i => exact hp i v' e (by simpa using hv) (by simpa using he)
theorem lendX_ok (h : Rep A0 w0 n os s a w) {v : Value} {d : DV} {Q : DV → Prop} (hr : RepV (avoid A0 os) os w v d) (hJ : ∀ e j, e ∈ owns [d] → hIx e = some j → pass.contains j = false → j ∈ J) (hl : lendX pass s.loc d Q) : ∃ d', Q d' ∧ LX A0 os J pass w v d' := by
  by_cases hd : ∃ cs, d = .agg cs
  · obtain ⟨cs, rfl⟩ := hd
    obtain ⟨vs, rfl, hlen, hone, hp⟩ := hr.agg_inv
    obtain ⟨ds', hq, hl2, hp2⟩ := lendXL_ok h vs cs hlen hp (fun e j he hj => hJ e j (by
      simp only [owns, List.append_nil]
      exact he) hj) hl
    exact ⟨_, hq, .inr ⟨vs, ds', rfl, rfl, hl2, hone, hp2⟩⟩
  · have h1 : lendX pass s.loc d Q = lendX0 pass s.loc d Q := by cases d <;> first | rfl | exact absurd ⟨_, rfl⟩ hd
    rw [h1] at hl
    have h2 : owns [d] = own0 d := by cases d <;> first | exact absurd ⟨_, rfl⟩ hd | simp [owns]
    rw [h2] at hJ
    obtain ⟨d', hq, hx⟩ := lendX0_ok h hr hJ hl
    exact ⟨d', hq, .inl hx⟩
theorem lendXA_ok (h : Rep A0 w0 n os s a w) : ∀ (vs : List Value) (ds : List DV) {Q : List DV → Prop}, vs.length = ds.length → (∀ (i : Nat) v d, vs[i]? = some v → ds[i]? = some d → RepV (avoid A0 os) os w v d) → (∀ e j, e ∈ owns ds → hIx e = some j → pass.contains j = false → j ∈ J) →
    lendXA pass s.loc ds Q → ∃ ds', Q ds' ∧ vs.length = ds'.length ∧ ∀ (i : Nat) v d, vs[i]? = some v → ds'[i]? = some d → LX A0 os J pass w v d
  | [], [], Q, _, _, _, hl => ⟨[], hl, rfl, by simp⟩
  | [], _ :: _, Q, h1, _, _, _ => by simp at h1
  | _ :: _, [], Q, h1, _, _, _ => by simp at h1
  | v :: vs, d :: ds, Q, h1, hr, hJ, hl => by
    obtain ⟨d', hl, hi⟩ := lendX_ok h (hr 0 v d rfl rfl) (fun e j he hj => hJ e j (by rw [owns_cons]; exact List.mem_append.2 (.inl he)) hj) hl
    obtain ⟨ds', hq, hlen, hp⟩ := lendXA_ok h vs ds (by simpa using h1) (fun i v d hv hd => hr (i + 1) v d (by simpa using hv) (by simpa using hd)) (fun e j he hj => hJ e j (by rw [owns_cons]; exact List.mem_append.2 (.inr he)) hj) hl
    refine ⟨d' :: ds', hq, by simp [hlen], fun i v' e hv he => ?_⟩
    cases i with
    | zero => simp at hv he; subst hv he; exact hi
    | succ i => exact hp i v' e (by simpa using hv) (by simpa using he)
theorem ownsX_ix {args : List DV} {e : DV} {j : Nat} (he : e ∈ owns args) (hj : hIx e = some j) (hn : pass.contains j = false) : j ∈ ownIx (ownsX pass args) := by
  refine own_ix (d := e) ?_ hj
  simp only [ownsX, List.mem_filter]
  refine ⟨he, ?_⟩
  cases e <;> simp [hIx] at hj
  · subst hj; simpa using hn
  · subst hj; simpa using hn
theorem ownsX_out {args : List DV} {j : Nat} (h : j ∈ ownIx (ownsX pass args)) : j ∉ pass := by
  obtain ⟨e, he, hj⟩ := List.mem_filterMap.1 h
  simp only [ownsX, List.mem_filter] at he
  cases e <;> simp [hIx] at hj
  · subst hj; simpa using he.2
  · subst hj; simpa using he.2
theorem from_len : ∀ (q i : Nat), (from' i q).length = q
  | 0, i => rfl
  | q + 1, i => by rw [from', List.length_cons, from_len q]
theorem from_mem : ∀ (q i j : Nat), j ∈ from' i q ↔ i ≤ j ∧ j < i + q
  | 0, i, j => by simp only [from', List.not_mem_nil, false_iff]; omega
  | q + 1, i, j => by rw [from', List.mem_cons, from_mem q]; omega
theorem from_nodup : ∀ (q i : Nat), (from' i q).Nodup
  | 0, i => List.nodup_nil
  | q + 1, i => List.nodup_cons.2 ⟨fun h => by rw [from_mem] at h; omega, from_nodup q _⟩
theorem lenAll : ∀ {l l' : List DV}, DleAll l l' → l.length = l'.length ∧ ∀ (i : Nat) c d, l[i]? = some c → l'[i]? = some d → dle c d
  | [], [], _ => ⟨rfl, fun i c d h _ => by simp at h⟩
  | [], _ :: _, h => h.elim
  | _ :: _, [], h => h.elim
  | x :: l, y :: l', h => by
    obtain ⟨h1, h2⟩ := lenAll h.2
    refine ⟨by simp [h1], fun i c d hc hd => ?_⟩
    cases i with
    | zero =>
      simp only [List.getElem?_cons_zero, Option.some.injEq] at hc hd
      subst hc; subst hd; exact h.1
    | succ i => exact h2 i c d (by simpa using hc) (by simpa using hd)
theorem pushed (h : Rep A0 w0 n os s a w) : ∀ m, ∃ os', Rep A0 w0 n os' ⟨s.env, s.loc ++ List.replicate m .dead⟩ a w ∧ (∀ i, i < os.length → os'[i]? = os[i]?) ∧ ∀ i, os.length ≤ i → i < os.length + m → os'[i]? = some (.nilFunc, .dead)
  | 0 => ⟨os, by simpa using h, fun _ _ => rfl, fun i h1 h2 => by omega⟩
  | m + 1 => by
    obtain ⟨os', h', g1, g2⟩ := pushed h m
    have hl : os'.length = os.length + m := by
      have := h'.len
      simp only [List.length_append, List.length_replicate, h.len] at this
      omega
    have := h'.push (x := .nilFunc) (ob := .dead) (grownBy.refl' w none) (by simp [blk]) trivial
    refine ⟨os' ++ [(.nilFunc, .dead)], ?_, fun i hi => ?_, fun i h1 h2 => ?_⟩
    · rw [List.replicate_succ', ← List.append_assoc]
      exact this
    · rw [List.getElem?_append_left (by omega)]
      exact g1 i hi
    · by_cases hi : i < os.length + m
      · rw [List.getElem?_append_left (by omega)]
        exact g2 i h1 hi
      · rw [List.getElem?_append_right (by omega)]
        have : i - os'.length = 0 := by omega
        rw [this]
        rfl
theorem dcallM_ok {f : FuncId} {args : List DV} {vals : List Value} {K : DV → DS → Prop} (h : Rep A0 w0 n os s a w) (hl : vals.length = args.length) (hp : ∀ (i : Nat) v d, vals[i]? = some v → args[i]? = some d → RepV (avoid A0 os) os w v d) (hK : dcallM P f args s K) :
    (∀ (vs : Array Value) (w : World), (callFunc f vs).run P w = .ok (.enter f vs) w) ∧ Calls P f vals.toArray w fun e w' => ∃ v r os' s', e = .returned v ∧ Rep A0 w0 n os' s' a w' ∧ RepV (avoid A0 os') os' w' v r ∧ K r s' := by
  obtain ⟨pass, hK⟩ := hK
  obtain ⟨l, hK, hll, hlx⟩ := lendXA_ok (J := ownIx (ownsX pass args)) h vals args hl hp (fun e j he hj hn => ownsX_ix he hj hn) hK
  obtain ⟨os1, s1, h1, hK, hav, hkp⟩ := shutIn_ok _ h hK
  obtain ⟨L, args0, kept, L', d, hret, hck, hobj, hdle, hK⟩ := hK
  simp only [Bool.and_eq_true] at hck
  obtain ⟨⟨⟨⟨⟨hkept, hgh⟩, hnd⟩, hlt⟩, hba⟩, hbL⟩ := hck
  simp only [List.all_eq_true] at hlt
  have hlt : ∀ i ∈ pass, i < s1.loc.length := fun i hi => Nat.le_of_ble_eq_true (hlt i hi)
  obtain ⟨os2, h2, g1, g2⟩ := pushed h1 (L'.length - L.length)
  obtain ⟨hks, hLL, _⟩ := keptOk_get (k := 0) hkept
  obtain ⟨hpl, _⟩ := objsM_get hobj
  obtain ⟨hdl, hdp⟩ := lenAll hdle
  have hlen1 := h1.len
  have hlen2 := h2.len
  simp only [List.length_append, List.length_replicate] at hlen2
  generalize hnews : from' s1.loc.length (L'.length - L.length) = news at *
  have hobj2 : objsM (s1.loc ++ List.replicate (L'.length - L.length) .dead) (nth (pass ++ news)) pass L := by
    have gen : ∀ (p : List Nat) (q : List LObj), (∀ i ∈ p, i < s1.loc.length) → objsM s1.loc (nth (pass ++ news)) p q → objsM (s1.loc ++ List.replicate (L'.length - L.length) .dead) (nth (pass ++ news)) p q := by
      intro p
      induction p with
      | nil => intro q _ h; cases q <;> exact h
      | cons i p ih =>
        intro q hi h
        cases q with
        | nil => exact h
        | cons o q =>
          refine ⟨?_, ih q (fun i hm => hi i (by simp [hm])) h.2⟩
          have := h.1
          rw [lget_eq] at this ⊢
          rw [List.getElem?_append_left (hi i (by simp))]
          exact this
    exact gen pass L hlt hobj
  have core := callM_core (s := ⟨s1.env, s1.loc ++ List.replicate (L'.length - L.length) .dead⟩) (news := news) (pass := pass) (J := notKept pass kept) h2 hret (fun k i hk hn => .inl (notKept_mem ((keptOk_get (k := 0) hkept).1.trans hpl.symm) hk hn)) hkept hgh (by
      rw [List.nodup_append]
      refine ⟨nodupB_iff hnd, by rw [← hnews]; exact from_nodup _ _, fun i hi j hj e => ?_⟩
      subst e
      rw [← hnews, from_mem] at hj
      have := hlt i hi
      omega) (fun i hi => by have := hlt i hi; omega) (fun i hi => by
      rw [← hnews, from_mem] at hi
      exact ⟨_, g2 i (by omega) (by omega)⟩) (by rw [← hnews, from_len]; omega) hbL (by simpa using hba) hobj2 (vals := vals) (by rw [hll, hdl]; simp) (fun i v d hv hd => by
      have hil := (List.getElem?_eq_some_iff.1 hv).1
      have hli := List.getElem?_eq_getElem (l := l) (i := i) (by omega)
      have hx := (hlx i v _ hv hli).rep hav hkp (fun j hj hm => ownsX_out hm hj)
      have hd2 : (args0.map (mvT (nth (pass ++ news))))[i]? = some (mvT (nth (pass ++ news)) d) := by rw [List.getElem?_map, hd]; rfl
      have hx2 := hx.less (hdp i _ _ hli hd2)
      have ka : Keeps (avoid A0 os1) (avoidX A0 os2 []) w w := Keeps.less (fun b hb => by
        rcases hb with hb | ⟨q, y, o', hq, hdd, _, hbb⟩
        · exact .inl hb
        · by_cases hql : q < os1.length
          · rw [g1 q hql] at hq
            exact .inr ⟨q, y, o', hq, hdd, hbb⟩
          · have hq2 : q < os1.length + (L'.length - L.length) := by
              have := (List.getElem?_eq_some_iff.1 hq).1
              omega
            rw [g2 q (by omega) hq2] at hq
            cases hq
            exact absurd rfl hdd)
      refine hx2.keep ka (fun q y ob hq => ⟨ob, ?_, by cases ob <;> simp [kindIs]⟩)
      rw [g1 q (List.getElem?_eq_some_iff.1 hq).1]
      exact hq)
  refine ⟨hret.1, core.mono fun e w' he => ?_⟩
  obtain ⟨v, os', rfl, hr, hv⟩ := he
  exact ⟨v, _, os', _, rfl, hr, hv, hK⟩
end
end Go.Lift

namespace Go.Lift
open Go

section
variable {P : Program} {tt : TT} {A0 : Nat → Prop} {w0 : Home} {n : Nat} {os : Objs} {s : DS} {a : Act} {w : World} {o : Oper} {K : DS → Prop} {A : Nat → Prop} {B : Nat}

theorem dcall_ok {f : FuncId} {args : List DV} {vals : List Value} {K : DV → DS → Prop} (h : Rep A0 w0 n os s a w) (hl : vals.length = args.length) (hp : ∀ (i : Nat) v d, vals[i]? = some v → args[i]? = some d → RepV (avoid A0 os) os w v d) (hK : dcall P f args s K) :
    (∀ (vs : Array Value) (w : World), (callFunc f vs).run P w = .ok (.enter f vs) w) ∧ Calls P f vals.toArray w fun e w' => ∃ v r os' s', e = .returned v ∧ Rep A0 w0 n os' s' a w' ∧ RepV (avoid A0 os') os' w' v r ∧ K r s' := by
  obtain ⟨l, ⟨l', r, hle, hret, hK⟩, hall⟩ := lendA_ok (J := ownIx (owns args)) h vals args hl hp (fun d j hd hj => own_ix hd hj) hK
  refine ⟨hret.1, (hret.2 _ w vals (fun b hb => ?_) (hall.le hle)).mono fun e w' he => ?_⟩
  · rcases hb with hb | ⟨i, x, o', hi, hd, _, hbb⟩
    · exact h.a0_lt hb
    · exact ((h.obj i x o' hi).blk_ge hd hbb).2
  · obtain ⟨v, rfl, hi, hg⟩ := he
    cases hows : owns args with
    | nil =>
      rw [hows] at hK hi
      refine ⟨v, r, os, s, rfl, h.grown hg, .imm ?_, hK⟩
      refine hi.keep (Keeps.less (fun b hb => ?_))
      rcases hb with hb | ⟨i, x, o', hi, hd, hbb⟩
      · exact .inl hb
      · exact .inr ⟨i, x, o', hi, hd, by simp [ownIx], hbb⟩
    | cons d ds =>
      rw [hows] at hK hi
      simp only at hK
      split at hK
      · rename_i hs
        exact ⟨v, r, os, s, rfl, h.grown hg, .imm (scalar_imm hs hi), hK⟩
      · obtain ⟨os', s', hr, hk, hx, _⟩ := shutIn_ok _ h hK
        exact ⟨v, r, os', s', rfl, hr.grown hg, .imm (hi.keep (Keeps.less hx)), hk⟩

theorem call_exec {f : Operand} {k : FuncId} {caps : List Value} {args : Array Operand} {ats : Array TypeId} (ho : o.op = .call { callee := .value f, args := args, argTypes := ats }) (hf : a.eval f = .func (.func k) #[] caps.toArray)
    (hc : ∀ (vs : Array Value) (w : World), (callFunc k vs).run P w = .ok (.enter k vs) w) : (execOp a.eval o).run P w = .ok (.enter k (args.toList.map a.eval ++ caps).toArray) w := by
  have : (#[] ++ args.map a.eval ++ caps.toArray) = (args.toList.map a.eval ++ caps).toArray := by cases args; simp
  simp only [execOp, ho, resolve, hf, Deferred.ofValue, Sem.run_bind, Sem.run_pure, Result.andThen_ok, invoke, hc]
  rw [this]
theorem args_rep {vs : List Value} {l : List Operand} {ds caps : List DV} {ρ : Operand → DV} (hd : ds = l.map ρ) (hx : ∀ x ∈ l, RepV A os w (a.eval x) (ρ x)) (hl : vs.length = caps.length) (hp : ∀ (i : Nat) v d, vs[i]? = some v → caps[i]? = some d → RepV A os w v d) :
    (l.map a.eval ++ vs).length = (ds ++ caps).length ∧ ∀ (i : Nat) v d, (l.map a.eval ++ vs)[i]? = some v → (ds ++ caps)[i]? = some d → RepV A os w v d := by
  subst hd
  refine ⟨by simp [hl], fun i v d hv hd => ?_⟩
  by_cases hi : i < l.length
  · rw [List.getElem?_append_left (by simpa using hi), List.getElem?_map, List.getElem?_eq_getElem hi] at hv hd
    cases hv; cases hd
    exact hx _ (List.getElem_mem hi)
  · rw [List.getElem?_append_right (by simpa using hi)] at hv hd
    simp only [List.length_map] at hv hd
    exact hp _ v d hv hd

theorem fin_val {Q : Exit → Act → World → Prop} {d : DV} (h : Rep A0 w0 n os s a w) (hd : ∀ t, o.dst = some t → t < n) (hg : ∃ x, (execOp a.eval o).run P w = .ok (.value x) w ∧ RepV (avoid A0 os) os w x d) (hK : putK s o.dst d K) : o.wp P a w (Nx A0 w0 n K) Q := by
  obtain ⟨x, hrun, hr⟩ := hg
  exact wp_value hrun (Nx.put h hd hr hK)

theorem frc_cases {d : DV} {Q : DV → Prop} (h : frc d Q) : Q d := frc_iff.1 h

theorem dStoreRow_ok (hT : tabOk P tt = true) {t : TypeId} {x y : Operand} {Q : Exit → Act → World → Prop} (ho : o.op = .store t x y) (h : Rep A0 w0 n os s a w) (hd : ∀ t, o.dst = some t → t < n) (hs : (tinfo tt t).size ≠ 0) (hK : dStoreRow tt s o.dst t (ev s x) (ev s y) K) : o.wp P a w (Nx A0 w0 n K) Q := by
  unfold dStoreRow at hK
  have hx := h.ev x
  split at hK
  · rename_i i k off ex
    rw [ex] at hx
    split at hK
    · rename_i e sz es hpl hl
      rw [h.loc] at hl
      obtain ⟨x', hi⟩ := lget_os hl (by simp)
      obtain ⟨g, m, c, rfl, hxv⟩ := hx.rp_row hi
      obtain ⟨ed, hed, hK⟩ := hK
      split at hK
      · rename_i hb
        simp only [Bool.and_eq_true] at hb
        exact store_row_ok hT ho h hd hs hxv hi rfl hpl hed (Nat.eq_of_beq_eq_true hb.1) (Nat.le_of_ble_eq_true hb.2) hK
      · exact hK.elim
    · exact hK.elim
  · exact hK.elim
theorem dStore_ok (hT : tabOk P tt = true) {t : TypeId} {x y : Operand} {d : DV} {Q : Exit → Act → World → Prop} (ho : o.op = .store t x y) (h : Rep A0 w0 n os s a w) (hd : ∀ t, o.dst = some t → t < n) (e : ev s y = d) (h1 : ∀ b d', d ≠ .wh b d') (h2 : ∀ l, d ≠ .tup l) (h3 : d ≠ .junk) (hK : dStore tt s o.dst t x y d K) : o.wp P a w (Nx A0 w0 n K) Q := by
  unfold dStore at hK
  have hx := h.ev x
  split at hK
  · exact hK.elim
  · rename_i hs
    split at hK
    · rename_i i off ex
      rw [ex] at hx
      obtain ⟨g, t', cs', hi, hxv⟩ := hx.lp_inv
      split at hK
      · rename_i t2 cs hl
        rw [h.loc] at hl
        obtain ⟨x', hi'⟩ := lget_os hl (by simp)
        rw [hi] at hi'
        cases hi'
        split at hK
        · exact hK.elim
        · rename_i hb
          simp only [Bool.and_eq_true] at hb
          exact store_cells_ok hT ho h hd hs hxv hi e h1 h2 h3 (Nat.eq_of_beq_eq_true hb.1) (Nat.le_of_ble_eq_true hb.2) (forceC_iff.1 hK)
      · exact hK.elim
    · rename_i i off ex
      rw [ex] at hx
      obtain ⟨g, t', cs', hi, hxv⟩ := hx.ap_inv
      split at hK
      · rename_i t2 cs hl
        rw [h.loc] at hl
        obtain ⟨x', hi'⟩ := lget_os hl (by simp)
        rw [hi] at hi'
        cases hi'
        split at hK
        · rename_i hb
          exact store_cells_ok hT ho h hd hs hxv hi e h1 h2 h3 (Nat.eq_of_beq_eq_true hb) hK.1 hK.2
        · exact hK.elim
      · exact hK.elim
    · obtain ⟨os', s', h', hK, _, _⟩ := shutIn_ok _ h hK
      exact dStoreRow_ok hT ho h' hd hs (frc_iff.1 hK)
    · exact hK.elim

theorem run_equalIn_nil (d : Nat) {t e : TypeId} {p : Option Addr} {n c : Nat} (h : P.underlying t = some (.slice e)) : (Op.equalIn (d + 1) t (.slice p n c) (.slice none 0 0)).run P w = .ok p.isNone w := by
  cases p <;> simp [Op.equalIn, run_underlying h]
theorem run_equal_nil {t e : TypeId} {p : Option Addr} {n c : Nat} (h : P.underlying t = some (.slice e)) : (Op.equal t (.slice p n c) (.slice none 0 0)).run P w = .ok p.isNone w := run_equalIn_nil 9999 h
theorem eqGuard_at_slice {op : BinOp} {t : TypeId} {x y : Operand} {p : Option Addr} {n c : Nat} {v : Value} : eqGuard op t x y (.slice p n c) v = pure () := by cases op <;> rfl
theorem run_eql_slice_nil' {t e : TypeId} {p : Option Addr} {n c : Nat} (h : P.underlying t = some (.slice e)) : (binOp .eql t (.slice p n c) (.slice none 0 0)).run P w = .ok (.bool p.isNone) w := by
  show (do pure (Value.bool (← Op.equal t (.slice p n c) (.slice none 0 0))) : Sem Value).run P w = _
  simp only [Sem.run_bind, run_equal_nil h, Result.andThen_ok, Sem.run_pure]
theorem run_neq_slice_nil' {t e : TypeId} {p : Option Addr} {n c : Nat} (h : P.underlying t = some (.slice e)) : (binOp .neq t (.slice p n c) (.slice none 0 0)).run P w = .ok (.bool (!p.isNone)) w := by
  show (do pure (Value.bool (!(← Op.equal t (.slice p n c) (.slice none 0 0)))) : Sem Value).run P w = _
  simp only [Sem.run_bind, run_equal_nil h, Result.andThen_ok, Sem.run_pure]
theorem dIsNil_ok {d : DV} {x : Value} {R : Bool → Prop} (h : Rep A0 w0 n os s a w) (hx : RepV (avoid A0 os) os w x d) (hK : dIsNil s.loc d R) : ∃ p m c, x = .slice p m c ∧ R p.isNone := by
  unfold dIsNil at hK
  split at hK
  · have := hx.nl_inv
    exact ⟨_, _, _, this, hK⟩
  · have him := hx.lst_inv
    cases him with
    | lst => exact ⟨_, _, _, rfl, hK.2⟩
    | nil => exact ⟨_, _, _, rfl, hK.1 rfl⟩
  · split at hK
    · rename_i j e sz es hl
      rw [h.loc] at hl
      obtain ⟨x', hi'⟩ := lget_os hl (by simp)
      have := hx.own_row hi'
      subst this
      obtain ⟨_, xs, ⟨_, hrow⟩, _⟩ := h.obj _ _ _ hi'
      rcases hrow with ⟨rfl, h0⟩ | ⟨g, cap, cur, rfl, _⟩
      · exact ⟨_, _, _, rfl, hK.1 (List.length_eq_zero_iff.1 h0)⟩
      · exact ⟨_, _, _, rfl, hK.2⟩
    · exact hK.elim
  · exact hK.elim
theorem dop_ok (hT : tabOk P tt = true) (h0 : (tinfo tt 0).size = 0) {Q : Exit → Act → World → Prop} (h : Rep A0 w0 n os s a w) (hd : ∀ t, o.dst = some t → t < n) (hK : dop tt P o s K) : o.wp P a w (Nx A0 w0 n K) Q := by
  unfold dop at hK
  split at hK
  · rw [h.loc] at hK
    obtain ⟨c, d, hK, hg⟩ := dval_ok hT h0 h.obj (ρ := ev s) (a := a) (fun x _ => h.ev x) hK
    obtain ⟨hc, hK⟩ := needs_iff.1 hK
    exact fin_val h hd (hg hc) hK
  · split at hK
    · -- alloc
      rename_i t ho
      split at hK
      · exact hK.elim
      · rename_i hs
        exact alloc_ok hT ho h hd hs hK
    · -- box
      rename_i t x ho
      have hK := frc_cases hK
      split at hK
      · rename_i cs e
        exact box_ok ho h hd e (by simp) (by simp) (by simp) (forceC_iff.1 hK)
      · exact hK.elim
      · exact hK.elim
      · exact hK.elim
      · rename_i d h1 h2 h3 h4
        have hdc : dcells (ev s x) = [ev s x] := by
          generalize ev s x = d at *
          cases d <;> first | rfl | exact absurd rfl (h1 _)
        refine box_ok ho h hd rfl (fun b d' e => h2 b d' e) (fun l e => h3 l e) (fun e => h4 e) ?_
        rw [hdc]
        exact hK
    · -- store
      rename_i t x y ho
      have hK := frc_cases hK
      split at hK
      · exact hK.elim
      · exact hK.elim
      · exact hK.elim
      · rename_i d h1 h2 h3
        exact dStore_ok hT ho h hd rfl (fun b d' e => h1 b d' e) (fun l e => h2 l e) (fun e => h3 e) hK
    · -- buildSlice
      rename_i t m parts ho
      split at hK
      · rename_i e hk
        split at hK
        · rename_i m1 hs hb
          have hle := Nat.le_of_ble_eq_true hb
          obtain ⟨os', s', h', hK⟩ := shutOps_ok _ h hK
          exact buildSlice_ok hT ho hk (by omega) hle h' hd hK
        · exact hK.elim
      · exact hK.elim
    · -- makeSlice
      rename_i t l c ho
      split at hK
      · rename_i e hk
        split at hK
        · rename_i m1 kl lv kc cv hs el ec
          obtain ⟨m, N, rfl, rfl, hmN, hb, hM, hK⟩ := hK
          have hl := h.ev l
          have hc := h.ev c
          rw [el] at hl
          rw [ec] at hc
          exact makeSlice_ok hT ho hk (by omega) h hd hl.v_inv.1 hc.v_inv.1 hmN hb hM hK
        · exact hK.elim
      · exact hK.elim
    · -- a cut of a row
      rename_i t x lo hi mx ho
      split at hK
      · rename_i j ex
        split at hK
        · rename_i e sz es hl
          rw [h.loc] at hl
          obtain ⟨x', hi'⟩ := lget_os hl (by simp)
          obtain ⟨h', _⟩ := h.shut hi'
          rw [h'.loc] at hK
          obtain ⟨c, d, hK, hg⟩ := dval_ok (o := o) hT h0 h'.obj (ρ := ev (s.shut j sz es)) (a := a) (fun x _ => h'.ev x) (by rw [ho]; exact hK)
          obtain ⟨hc, hK⟩ := needs_iff.1 hK
          exact fin_val h' hd (hg hc) hK
        · exact hK.elim
      · exact hK.elim
    · -- a row's bytes
      rename_i src dst x ho
      split at hK
      · rename_i j ex
        split at hK
        · rename_i e sz es hl
          rw [h.loc] at hl
          obtain ⟨x', hi'⟩ := lget_os hl (by simp)
          obtain ⟨h', _⟩ := h.shut hi'
          rw [h'.loc] at hK
          obtain ⟨c, d, hK, hg⟩ := dval_ok (o := o) hT h0 h'.obj (ρ := ev (s.shut j sz es)) (a := a) (fun x _ => h'.ev x) (by rw [ho]; exact hK)
          obtain ⟨hc, hK⟩ := needs_iff.1 hK
          exact fin_val h' hd (hg hc) hK
        · exact hK.elim
      · exact hK.elim
    · -- a slice against nil
      rename_i op t x y u ho
      split at hK
      · rename_i e hk ey
        have hy := h.ev y
        rw [ey] at hy
        have hy := hy.nl_inv
        have hu := tab_slc hT hk
        unfold dNil at hK
        split at hK
        · obtain ⟨p, m, c, hx, hK⟩ := dIsNil_ok h (h.ev x) hK
          exact fin_val h hd ⟨.bool p.isNone, by
            simp only [execOp, ho, hx, hy, eqGuard_at_slice, Sem.run_bind, Sem.run_pure, Result.andThen_ok]
            rw [run_eql_slice_nil' hu]
            rfl, .imm (.v rfl)⟩ hK
        · obtain ⟨p, m, c, hx, hK⟩ := dIsNil_ok h (h.ev x) hK
          exact fin_val h hd ⟨.bool (!p.isNone), by
            simp only [execOp, ho, hx, hy, eqGuard_at_slice, Sem.run_bind, Sem.run_pure, Result.andThen_ok]
            rw [run_neq_slice_nil' hu]
            rfl, .imm (.v rfl)⟩ hK
        · exact hK.elim
      · exact hK.elim
    · -- append
      rename_i args ats ho
      split at hK
      · rename_i x y t t' ha hat
        split at hK
        · rename_i e htt hk
          have htt := Nat.eq_of_beq_eq_true htt
          split at hK
          · exact hK.elim
          · rename_i hs
            exact append_ok hT ho ha hat htt hk hs h hd hK
        · exact hK.elim
      · exact hK.elim
    · -- copy
      rename_i args ats ho
      split at hK
      · rename_i x y t t' ha hat
        split at hK
        · rename_i e htt hk
          have htt := Nat.eq_of_beq_eq_true htt
          split at hK
          · exact hK.elim
          · rename_i hs
            exact copy_ok hT ho ha hat htt hk hs h hd hK
        · exact hK.elim
      · exact hK.elim
    · -- a call
      rename_i f args ats ho
      split at hK
      · rename_i k caps ef
        have hf := h.ev f
        rw [ef] at hf
        obtain ⟨vs, hv, hl, hp⟩ := hf.fn_inv
        have hK := evL_elim hK
        obtain ⟨h1, h2⟩ := args_rep (l := args.toList) rfl (fun x _ => h.ev x) hl hp
        have hboth : (∀ (vs : Array Value) (w : World), (callFunc k vs).run P w = .ok (.enter k vs) w) ∧ Calls P k (args.toList.map a.eval ++ vs).toArray w fun e w' => ∃ v r os' s', e = .returned v ∧ Rep A0 w0 n os' s' a w' ∧ RepV (avoid A0 os') os' w' v r ∧ putK s' o.dst r K := by
          rcases hK with hK | hK
          · exact dcall_ok h h1 h2 hK
          · exact dcallM_ok h h1 h2 hK
        obtain ⟨hc, hcall⟩ := hboth
        unfold Oper.wp
        rw [call_exec ho hv hc]
        refine hcall.mono fun e w' he => ?_
        obtain ⟨v, r, os', s', rfl, hr, hrv, hk⟩ := he
        exact Nx.put hr hd hrv hk
      · exact hK.elim
    · exact hK.elim
end
end Go.Lift

namespace Go.Lift
open Go

section
variable {P : Program} {tt : TT} {A0 : Nat → Prop} {w0 : Home} {n : Nat} {os : Objs} {s : DS} {a : Act} {w : World} {o : Oper} {K : DS → Prop} {A : Nat → Prop} {B : Nat} {ρ : Operand → DV} {loc : List LObj} {Q : Option Prop → DV → Prop}

theorem frc_ex {d : DV} {c : DV → Option Prop} (h : frc d fun d => Q (c d) d) : ∃ c d, Q c d := ⟨c d, d, (frc_iff (K := fun d => Q (c d) d)).1 h⟩
theorem take_ex {agg : Bool} {size : Nat} {l : List DV} {R : DV → Prop} (h : dTake agg size l R) : ∃ d, R d := by
  unfold dTake at h
  split at h
  · exact ⟨_, (takeK_elim h).2⟩
  · split at h
    · exact ⟨_, frc_iff.1 h⟩
    · exact h.elim
theorem buildK_ex {place : Nat → Nat × Nat} {R : List DV → Prop} : ∀ {parts : List (Nat × Operand)} {cs : List DV}, buildK ρ place parts cs R → ∃ l, R l
  | [], cs, h => ⟨cs, h⟩
  | (i, x) :: r, cs, h => by
    have h := frc_iff.1 h
    split at h
    · exact h.elim
    · exact h.elim
    · exact h.elim
    · split at h
      · exact buildK_ex (forceC_iff.1 h)
      · exact h.elim
theorem obl_ex {b : Bool} {d : DV} {R : Option Prop → DV → Prop} (h : obl b d R) : ∃ c d, R c d := by
  unfold obl at h
  split at h <;> exact ⟨_, _, h⟩
theorem pick_ex {c x y : Operand} (h : dPick ρ c x y Q) : ∃ c d, Q c d := by
  unfold dPick at h
  split at h
  · obtain ⟨c1, x', h⟩ := obl_ex h
    obtain ⟨c2, y', h⟩ := obl_ex h
    obtain ⟨_, _, _, _, _, h, _⟩ := dpickV_elim (frc_iff.1 (frc_iff.1 h))
    exact ⟨_, _, h⟩
  · exact h.elim
theorem bin_ex {t : TypeId} {op : BinOp} {x y : DV} (h : dbin tt t op x y Q) : ∃ c d, Q c d := by
  unfold dbin at h
  split at h
  · split at h
    · unfold dShift at h; split at h <;> first | exact h.elim | exact ⟨_, _, h⟩
    · split at h
      · unfold dInt at h; split at h <;> first | exact h.elim | exact ⟨_, _, h⟩
      · exact h.elim
  · unfold dStr at h; split at h <;> first | exact h.elim | exact ⟨_, _, h⟩
  · split at h
    · unfold dBool at h; split at h <;> first | exact h.elim | exact ⟨_, _, h⟩
    · exact h.elim
  · unfold dAgg at h
    split at h
    · split at h
      · obtain ⟨_, _, _, _, _, _, h⟩ := eqCells_elim h; exact ⟨_, _, h⟩
      · obtain ⟨_, _, _, _, _, _, h⟩ := eqCells_elim h; exact ⟨_, _, h⟩
      · exact h.elim
    · exact h.elim
  · exact h.elim
theorem dval_ex {op : Op} (h : dval tt loc op ρ Q) : ∃ c d, Q c d := by
  unfold dval at h
  split at h
  · exact ⟨_, _, frc_iff.1 h⟩
  · exact ⟨_, _, frc_iff.1 h⟩
  · exact pick_ex h
  · unfold dNilCheck at h; split at h <;> first | exact h.elim | exact ⟨_, _, h⟩ | (split at h <;> first | exact h.elim | exact ⟨_, _, h⟩)
  · exact bin_ex h
  · unfold dUn at h; split at h <;> first | exact h.elim | exact ⟨_, _, h⟩
  · unfold dConvert at h
    split at h
    · exact ⟨_, _, h⟩
    · exact ⟨_, _, h⟩
    · split at h
      · obtain ⟨_, h⟩ := h; exact ⟨_, _, h⟩
      · exact h.elim
    · exact h.elim
  · unfold dFieldAddr at h
    split at h
    · split at h
      · exact h.elim
      · split at h
        · exact ⟨_, _, h⟩
        · exact ⟨_, _, h⟩
        · split at h <;> first | exact h.elim | exact ⟨_, _, h⟩
        · exact ⟨_, _, (dropK_elim h).2⟩
        · exact h.elim
    · exact h.elim
  · unfold dField at h
    split at h
    · split at h
      · exact h.elim
      · split at h
        · obtain ⟨_, h⟩ := take_ex (dropK_elim h).2; exact ⟨_, _, h⟩
        · exact h.elim
    · exact h.elim
  · unfold dIndexAddr at h
    split at h
    · split at h
      · exact h.elim
      · unfold dIndexSlc at h
        split at h
        · split at h
          · obtain ⟨_, _, h⟩ := h; exact ⟨_, _, h⟩
          · exact h.elim
        · split at h
          · split at h
            · obtain ⟨_, h⟩ := h; exact ⟨_, _, h⟩
            · exact h.elim
          · exact h.elim
        · exact h.elim
    · split at h
      · exact h.elim
      · unfold dIndexArr at h
        split at h
        · split at h <;> first | exact h.elim | exact ⟨_, _, h⟩
        · split at h
          · obtain ⟨_, h⟩ := h; exact ⟨_, _, h⟩
          · obtain ⟨_, h⟩ := h; exact ⟨_, _, h⟩
          · exact h.elim
    · exact h.elim
  · unfold dIndex at h
    split at h
    · split at h
      · obtain ⟨_, h⟩ := h; exact ⟨_, _, h⟩
      · split at h
        · obtain ⟨_, _, h⟩ := h; exact frc_ex h
        · exact h.elim
      · exact h.elim
    · exact h.elim
  · unfold dLoad at h
    split at h
    · exact h.elim
    · split at h
      · obtain ⟨_, h⟩ := take_ex h; exact ⟨_, _, h⟩
      · split at h
        · obtain ⟨_, h⟩ := take_ex (dropK_elim h).2; exact ⟨_, _, h⟩
        · exact h.elim
      · split at h
        · split at h
          · obtain ⟨_, h⟩ := h; exact ⟨_, _, h⟩
          · obtain ⟨_, h⟩ := h; exact frc_ex h
        · exact h.elim
      · split at h
        · obtain ⟨_, h⟩ := h
          obtain ⟨_, h⟩ := take_ex (dropK_elim h).2; exact ⟨_, _, h⟩
        · exact h.elim
      · exact h.elim
  · unfold dExtract at h
    split at h
    · have h := (dropK_elim h).2
      split at h
      · exact ⟨_, _, frc_iff.1 h⟩
      · exact h.elim
    · exact h.elim
  · unfold dSlice at h
    split at h
    · split at h
      · obtain ⟨_, _, h⟩ := h; exact ⟨_, _, h⟩
      · exact h.elim
    · split at h <;> first | exact h.elim | exact ⟨_, _, h⟩
    · split at h
      · exact h.elim
      · exact h.elim
      · split at h
        · obtain ⟨_, h⟩ := h; exact ⟨_, _, h⟩
        · obtain ⟨_, _, h⟩ := h; exact ⟨_, _, h⟩
        · obtain ⟨_, _, h⟩ := h; exact ⟨_, _, h⟩
        · exact h.elim
    · exact h.elim
  · split at h
    · have h := evL_elim h
      split at h
      · exact ⟨_, _, h⟩
      · exact h.elim
    · exact h.elim
  · unfold dBuild at h
    split at h
    · split at h
      · obtain ⟨_, h⟩ := buildK_ex h; exact ⟨_, _, h⟩
      · exact h.elim
    · split at h
      · obtain ⟨_, h⟩ := buildK_ex h; exact ⟨_, _, h⟩
      · exact h.elim
    · exact h.elim
  · split at h
    · unfold dLen at h
      split at h
      · split at h
        · exact ⟨_, _, h⟩
        · exact ⟨_, _, h⟩
        · split at h <;> first | exact h.elim | exact ⟨_, _, h⟩
        · exact h.elim
      · split at h <;> first | exact h.elim | exact ⟨_, _, h⟩
      · exact ⟨_, _, h⟩
      · exact h.elim
    · exact h.elim
  · split at h
    · unfold dMin at h; split at h <;> first | exact h.elim | exact ⟨_, _, h⟩
    · exact h.elim
  · split at h
    · unfold dMax at h; split at h <;> first | exact h.elim | exact ⟨_, _, h⟩
    · exact h.elim
  · exact h.elim

theorem lendC_ex {d : DV} {R : DV → Prop} (h : lendC loc d R) : ∃ d, R d := by
  unfold lendC at h
  split at h
  · split at h
    · split at h
      · exact ⟨_, h⟩
      · exact h.elim
    · exact h.elim
  · exact ⟨_, h⟩
theorem lendCs_ex : ∀ {ds : List DV} {R : List DV → Prop}, lendCs loc ds R → ∃ l, R l
  | [], R, h => ⟨_, h⟩
  | d :: r, R, h => by
    obtain ⟨_, h⟩ := lendC_ex h
    obtain ⟨_, h⟩ := lendCs_ex h
    exact ⟨_, h⟩
theorem lend0_ex {d : DV} {R : DV → Prop} (h : lend0 loc d R) : ∃ d, R d := by
  unfold lend0 at h
  split at h
  · split at h
    · exact ⟨_, h⟩
    · exact h.elim
  · split at h
    · split at h
      · exact ⟨_, h⟩
      · exact h.elim
    · exact h.elim
  · obtain ⟨_, h⟩ := lendCs_ex h; exact ⟨_, h⟩
  all_goals first | exact h.elim | exact ⟨_, h⟩
theorem lendL_ex : ∀ {ds : List DV} {R : List DV → Prop}, lendL loc ds R → ∃ l, R l
  | [], R, h => ⟨_, h⟩
  | d :: r, R, h => by
    obtain ⟨_, h⟩ := lend0_ex h
    obtain ⟨_, h⟩ := lendL_ex h
    exact ⟨_, h⟩
theorem lend_ex {d : DV} {R : DV → Prop} (h : lend loc d R) : ∃ d, R d := by
  unfold lend at h
  split at h
  · obtain ⟨_, h⟩ := lendL_ex h; exact ⟨_, h⟩
  · rename_i ds
    revert h
    cases ds.any isOwn <;> intro h
    · exact ⟨_, h⟩
    · exact h.elim
  · exact lend0_ex h
theorem lendA_ex : ∀ {ds : List DV} {R : List DV → Prop}, lendA loc ds R → ∃ l, R l
  | [], R, h => ⟨_, h⟩
  | d :: r, R, h => by
    obtain ⟨_, h⟩ := lend_ex h
    obtain ⟨_, h⟩ := lendA_ex h
    exact ⟨_, h⟩
theorem oblAll_ex {g : Bool} : ∀ {l : List Operand} {R : Option Prop → Prop}, oblAll g s l R → ∃ c, R c
  | [], R, h => ⟨_, h⟩
  | x :: r, R, h => by
    unfold oblAll at h
    split at h
    · obtain ⟨_, h⟩ := oblAll_ex h; exact ⟨_, h⟩
    · exact oblAll_ex h
theorem oblAll_ok {g : Bool} (h : Rep A0 w0 n os s a w) : ∀ {l : List Operand} {R : Option Prop → Prop}, oblAll g s l R → ∃ c, R c ∧ (Holds c → g = true → ∀ x ∈ l, RepV (avoid A0 os) os w (a.eval x) (bare s x))
  | [], R, hR => ⟨_, hR, fun _ _ x hx => by simp at hx⟩
  | x :: r, R, hR => by
    unfold oblAll at hR
    have hx := h.ev x
    split at hR
    · rename_i g' d e
      obtain ⟨c, hR, hc⟩ := oblAll_ok h hR
      refine ⟨_, hR, fun hh hg y hy => ?_⟩
      obtain ⟨h1, h2⟩ := Holds.andO.1 hh
      rcases List.mem_cons.1 hy with rfl | hy
      · unfold bare
        rw [e] at hx ⊢
        exact hx.wh_inv.1 (Holds.some_iff.1 h1 hg)
      · exact hc h2 hg y hy
    · rename_i hnw
      obtain ⟨c, hR, hc⟩ := oblAll_ok h hR
      refine ⟨_, hR, fun hh hg y hy => ?_⟩
      rcases List.mem_cons.1 hy with rfl | hy
      · have : bare s y = ev s y := by
          unfold bare
          generalize ev s y = d at hnw
          cases d <;> first | rfl | exact absurd rfl (hnw _ _)
        rw [this]
        exact hx
      · exact hc hh hg y hy

theorem openK_ok {g : Bool} (hg : g = true) {K : DS → Prop} : ∀ {l : List Operand} {s : DS}, Rep A0 w0 n os s a w → openK g l s K → ∃ s', Rep A0 w0 n os s' a w ∧ K s'
  | [], s, h, hK => ⟨s, h, hK⟩
  | .tmp t :: r, s, h, hK => by
    unfold openK at hK
    split at hK
    · rename_i g' d e
      have hx := h.env t
      rw [e] at hx
      have hd := hx.wh_inv.1 (hK.1 hg)
      refine openK_ok hg (s := ⟨(t, d) :: s.env, s.loc⟩) ⟨h.size, h.defers, h.gr, h.a0, h.loc, fun t' => ?_, h.obj, h.inj⟩ hK.2
      simp only [look]
      split
      · rename_i ht
        first
          | (subst ht; exact hd)
          | (rw [show t' = t from by simpa using ht]; exact hd)
          | (rw [← show t = t' from by simpa using ht]; exact hd)
      · exact h.env t'
    · exact openK_ok hg h hK
  | .const v :: r, s, h, hK => openK_ok hg (l := r) h (by unfold openK at hK; exact hK)
  | .global v :: r, s, h, hK => openK_ok hg (l := r) h (by unfold openK at hK; exact hK)
  | .func v :: r, s, h, hK => openK_ok hg (l := r) h (by unfold openK at hK; exact hK)
theorem dguard0_true (hT : tabOk P tt = true) (h0 : (tinfo tt 0).size = 0) {E : Exit → Act → World → Prop} (h : Rep A0 w0 n os s a w) (hd : ∀ t, o.dst = some t → t < n) (hK : dguard0 tt P o true s K) : o.wp P a w (Nx A0 w0 n K) E := by
  unfold dguard0 at hK
  split at hK
  · obtain ⟨c0, hK, hc0⟩ := oblAll_ok h hK
    rw [h.loc] at hK
    obtain ⟨_, _, hK2⟩ := dval_ex hK
    have hh := Holds.andO.1 (needs_iff.1 hK2).1
    obtain ⟨c, d, hK, hg⟩ := dval_ok hT h0 h.obj (ρ := bare s) (a := a) (hc0 hh.1 rfl) hK
    obtain ⟨hc, hK⟩ := needs_iff.1 hK
    have hcc : Holds c := by
      have := (Holds.andO.1 hc).2
      cases c with
      | none => exact Holds.none'
      | some p => exact Holds.some_iff.2 (Holds.some_iff.1 this rfl)
    obtain ⟨x, hrun, hr⟩ := hg hcc
    exact wp_value hrun (Nx.put h hd (.wh (fun _ => hr) (fun e => by cases e)) hK)
  · split at hK
    · rename_i f args ats ho
      split at hK
      · rename_i k caps ef
        obtain ⟨c0, hK, hc0⟩ := oblAll_ok h hK
        have hK := evL_elim hK
        have hh : Holds c0 := by
          obtain ⟨l1, _, _, _, _, hn⟩ := lendA_ex hK
          exact (needs_iff.1 hn).1
        have hops := hc0 hh rfl
        have hf := hops f (by rw [ho]; simp [Op.operands, Call.operands])
        rw [ef] at hf
        obtain ⟨vs, hv, hl, hp⟩ := hf.fn_inv
        obtain ⟨h1, h2⟩ := args_rep (os := os) (A := avoid A0 os) (w := w) (a := a) (l := args.toList) (ρ := bare s) rfl (fun x hx => hops x (by rw [ho]; simp only [Op.operands, Call.operands]; simp only [Array.toList_append, List.mem_append]; exact .inr hx)) hl hp
        obtain ⟨l1, ⟨l', r, hle, hret, hK⟩, hall⟩ := lendA_ok (J := ownIx (owns (args.toList.map (bare s) ++ caps))) h _ _ h1 h2 (fun d j hd hj => own_ix hd hj) hK
        have hret := hret rfl
        have hK := (needs_iff.1 hK).2
        have hmain : (match owns (args.toList.map (bare s) ++ caps) with
            | [] => putK s o.dst (.wh true r) K
            | _ => match scalar r with
              | true => putK s o.dst (.wh true r) K
              | false => False) → o.wp P a w (Nx A0 w0 n K) E := fun hK => by
          unfold Oper.wp
          rw [call_exec ho hv hret.1]
          refine (hret.2 _ w _ (fun b hb => ?_) (hall.le hle)).mono fun e w' he => ?_
          · rcases hb with hb | ⟨i, x, o', hi, hd, _, hbb⟩
            · exact h.a0_lt hb
            · exact ((h.obj i x o' hi).blk_ge hd hbb).2
          · obtain ⟨v, rfl, hi, hg⟩ := he
            cases hows : owns (args.toList.map (bare s) ++ caps) with
            | nil =>
              rw [hows] at hK hi
              refine Nx.put (h.grown hg) hd (.wh (fun _ => .imm (hi.keep (Keeps.less (fun b hb => ?_)))) (fun e => by cases e)) hK
              rcases hb with hb | ⟨i, x, o', hi, hd, hbb⟩
              · exact .inl hb
              · exact .inr ⟨i, x, o', hi, hd, by simp [ownIx], hbb⟩
            | cons d ds =>
              rw [hows] at hK hi
              simp only at hK
              split at hK
              · rename_i hs
                exact Nx.put (h.grown hg) hd (.wh (fun _ => .imm (scalar_imm hs hi)) (fun e => by cases e)) hK
              · exact hK.elim
        cases hows : owns (args.toList.map (bare s) ++ caps) with
        | nil => rw [hows] at hK hmain; exact hmain hK
        | cons d ds =>
          rw [hows] at hK hmain
          cases hs : scalar r with
          | true => simp only [hs] at hK hmain; exact hmain hK
          | false =>
            simp only [hs] at hK
            obtain ⟨s', h', hK'⟩ := openK_ok rfl h (hK.1 trivial)
            exact dop_ok hT h0 h' hd hK'
      · exact hK.elim
    · obtain ⟨s', h', hK'⟩ := openK_ok rfl h (hK.1 rfl)
      exact dop_ok hT h0 h' hd hK'
theorem dguard0_false {g : Bool} (h : Rep A0 w0 n os s a w) (hg : g = false) (hd : ∀ t, o.dst = some t → t < n) (hK : dguard0 tt P o g s K) : Nx A0 w0 n K (a.put o.dst undef) w := by
  subst hg
  have gone : ∀ {d : DV}, putK s o.dst (.wh false d) K → Nx A0 w0 n K (a.put o.dst undef) w := fun hK => Nx.put h hd rep_gone hK
  unfold dguard0 at hK
  split at hK
  · obtain ⟨_, hK⟩ := oblAll_ex hK
    obtain ⟨_, _, hK⟩ := dval_ex hK
    exact gone (needs_iff.1 hK).2
  · split at hK
    · split at hK
      · obtain ⟨_, hK⟩ := oblAll_ex hK
        obtain ⟨l1, l', r, _, _, hK⟩ := lendA_ex (evL_elim hK)
        have hK := (needs_iff.1 hK).2
        split at hK
        · exact gone hK
        · split at hK
          · exact gone hK
          · exact gone (hK.2 rfl)
      · exact hK.elim
    · exact gone (hK.2 rfl)

theorem dgPick_ex {g : Bool} {c x y : Operand} (h : dgPick s g c x y Q) : ∃ c d, Q c d := by
  unfold dgPick at h
  obtain ⟨_, h⟩ := oblAll_ex h
  split at h
  · obtain ⟨c1, x', h⟩ := obl_ex h
    obtain ⟨c2, y', h⟩ := obl_ex h
    obtain ⟨_, _, _, _, _, h, _⟩ := dpickV_elim (frc_iff.1 (frc_iff.1 h))
    exact ⟨_, _, h⟩
  · exact h.elim
theorem dgPick_ok {c x y : Operand} (ho : o.op = .pick c x y) (ho0 : ∀ {R : Option Prop → Prop}, oblAll true s [c] R → ∃ c0, R c0 ∧ (Holds c0 → RepV A os w (a.eval c) (bare s c)))
    (hx : RepV A os w (a.eval x) (ev s x)) (hy : RepV A os w (a.eval y) (ev s y)) (h : dgPick s true c x y Q) : GivesSome P A os w a o Q := by
  unfold dgPick at h
  obtain ⟨c0, h, hc⟩ := ho0 h
  split at h
  · rename_i t et
    obtain ⟨c1, x', h, k1⟩ := obl_elim (A := A) (os := os) (w := w) h
    obtain ⟨c2, y', h, k2⟩ := obl_elim (A := A) (os := os) (w := w) h
    obtain ⟨p, q, r, e1, e2, h, hr⟩ := dpickV_elim (frc_iff.1 (frc_iff.1 h))
    refine ⟨_, _, h, fun hh => ?_⟩
    obtain ⟨hc0, hh⟩ := Holds.andO.1 hh
    obtain ⟨hc1, hc2⟩ := Holds.andO.1 hh
    have ec := hc hc0
    rw [et] at ec
    have ec := ec.v_inv.1
    have hxv : t = true → a.eval x = .bool p := fun ht => by have := k1 _ hc1 (by simp [ht]) hx; rw [e1] at this; exact this.v_inv.1
    have hyv : t = false → a.eval y = .bool q := fun ht => by have := k2 _ hc2 (by simp [ht]) hy; rw [e2] at this; exact this.v_inv.1
    have hr' := hr (fun hk ht => by
      have := hxv ht
      rw [isConstTrue_eval hk] at this
      injection this with this
      exact this.symm) (fun hk ht => by
      have := hyv ht
      rw [isConstFalse_eval hk] at this
      injection this with this
      exact this.symm)
    refine ⟨.bool r, ?_, .imm (.v rfl)⟩
    simp only [execOp, ho, ec, asBool, Sem.run_bind, Sem.run_pure, Result.andThen_ok]
    rw [hr']
    cases t
    · simp [hyv rfl]
    · simp [hxv rfl]
  · exact h.elim
theorem dguard_true (hT : tabOk P tt = true) (h0 : (tinfo tt 0).size = 0) {E : Exit → Act → World → Prop} (h : Rep A0 w0 n os s a w) (hd : ∀ t, o.dst = some t → t < n) (hK : dguard tt P o true s K) : o.wp P a w (Nx A0 w0 n K) E := by
  unfold dguard at hK
  split at hK
  · rename_i c x y ho
    obtain ⟨c, d, hK, hg⟩ := dgPick_ok (P := P) (A := avoid A0 os) (os := os) (w := w) (a := a) ho (fun hR => by
      obtain ⟨c0, hR, hh⟩ := oblAll_ok h hR
      exact ⟨c0, hR, fun hc => hh hc rfl _ (by simp)⟩) (h.ev x) (h.ev y) hK
    obtain ⟨hc, hK⟩ := needs_iff.1 hK
    obtain ⟨x, hrun, hr⟩ := hg hc
    exact wp_value hrun (Nx.put h hd (.wh (fun _ => hr) (fun e => by cases e)) hK)
  · exact dguard0_true hT h0 h hd hK
theorem dguard_false {g : Bool} (h : Rep A0 w0 n os s a w) (hg : g = false) (hd : ∀ t, o.dst = some t → t < n) (hK : dguard tt P o g s K) : Nx A0 w0 n K (a.put o.dst undef) w := by
  unfold dguard at hK
  split at hK
  · obtain ⟨_, _, hK⟩ := dgPick_ex hK
    subst hg
    exact Nx.put h hd rep_gone (needs_iff.1 hK).2
  · exact dguard0_false h hg hd hK

def dstOk (n : Nat) (o : Oper) : Bool :=
  match o.dst with
  | some t => Nat.blt t n
  | none => true
theorem dstOk_lt (h : dstOk n o = true) : ∀ t, o.dst = some t → t < n := by
  intro t e
  unfold dstOk at h
  rw [e] at h
  exact Nat.le_of_ble_eq_true h
theorem wantK_iff {b want : Bool} {R : Bool → Prop} : wantK b want R ↔ R (if want then b else !b) := by cases want <;> exact Iff.rfl
theorem dops_ok (hT : tabOk P tt = true) (h0 : (tinfo tt 0).size = 0) {ops : Array Oper} {E : Exit → Act → World → Prop} {K : DS → Prop} (hE : ∀ a w, Nx A0 w0 n K a w → E .normal a w) :
    ∀ (l : List Oper) {os : Objs} {s : DS} {a : Act} {w : World}, l.all (dstOk n) = true → Rep A0 w0 n os s a w → dops tt P ops.toList l K s → wpList P ops E l a w
  | [], os, s, a, w, _, h, hK => hE a w ⟨os, s, h, hK⟩
  | o :: r, os, s, a, w, hl, h, hK => by
    simp only [List.all_cons, Bool.and_eq_true] at hl
    have hd := dstOk_lt hl.1
    have next : ∀ a w, Nx A0 w0 n (fun s => dops tt P ops.toList r K s) a w → wpList P ops E r a w := fun a w ⟨os, s, h, hK⟩ => dops_ok hT h0 hE r hl.2 h hK
    unfold dops at hK
    refine wpList_step fun K' hK' => ?_
    have step : ∀ {a : Act} {w : World}, o.wp P a w (Nx A0 w0 n (fun s => dops tt P ops.toList r K s)) E → o.wp P a w K' E := by
      intro a w hwp
      have mono : ∀ {next next' : Act → World → Prop}, (∀ a w, next a w → next' a w) → o.wp P a w next E → o.wp P a w next' E := by
        intro next next' hn hwp
        unfold Oper.wp at hwp ⊢
        unfold Oper.upon at hwp ⊢
        split at hwp
        · exact hn _ _ hwp
        · exact hn _ _ hwp
        · exact hn _ _ hwp
        · refine hwp.mono fun e w' he => ?_
          cases e with
          | returned v => exact hn _ _ he
          | panicked c => exact he
          | outgrown => exact he
        · exact hwp.mono fun v w' he => hn _ _ he
        · exact hwp
        · exact hwp.elim
      exact mono (fun a w hN => hK' a w (next a w hN)) hwp
    split at hK
    · rename_i hg
      rw [if_pos (by simp [Region.wanted, hg])]
      exact step (dop_ok hT h0 h hd hK)
    · rename_i j want hg
      have hy : ∀ d, guardOf ops.toList s j = d → d ≠ .junk → ∃ t, (ops[j]?).bind (·.dst) = some t ∧ look s.env t = d := by
        intro d e hj
        unfold guardOf at e
        split at e
        · rename_i oj hoj
          split at e
          · rename_i t ht
            exact ⟨t, by simp only [Array.getElem?_toList] at hoj; simp [hoj, ht], e⟩
          · exact absurd e.symm hj
        · exact absurd e.symm hj
      split at hK
      · rename_i b e
        obtain ⟨t, ht, hlk⟩ := hy _ e (by simp)
        have hv := h.env t
        rw [hlk] at hv
        have hv := hv.v_inv.1
        have hyl : yielded ops a.tmps j = some b := by
          have hlt : t < a.tmps.size := by
            rcases Nat.lt_or_ge t a.tmps.size with hlt | hge
            · exact hlt
            · rw [Array.getD_eq_getD_getElem?, Array.getElem?_eq_none hge] at hv
              cases hv
          rw [Array.getD_eq_getD_getElem?, Array.getElem?_eq_getElem hlt] at hv
          simp only [Option.getD_some] at hv
          simp [yielded, ht, hlt, hv]
        have hK := wantK_iff.1 hK
        by_cases hb : b = want
        · subst hb
          rw [if_pos (by simp [Region.wanted, hg, hyl])]
          have : (if b then b else !b) = true := by cases b <;> rfl
          rw [this] at hK
          exact step (dguard_true hT h0 h hd hK)
        · rw [if_neg (by simp [Region.wanted, hg, hyl, hb])]
          have : (if want then b else !b) = false := by cases b <;> cases want <;> simp at hb ⊢
          exact hK' _ _ (next _ _ (dguard_false h this hd hK))
      · rename_i g b e
        obtain ⟨t, ht, hlk⟩ := hy _ e (by simp)
        have hv := h.env t
        rw [hlk] at hv
        obtain ⟨hv1, hv0⟩ := hv.wh_inv
        have hK := wantK_iff.1 hK
        cases hgv : g with
        | false =>
          have hv := hv0 hgv
          have hyl : yielded ops a.tmps j = none := by
            have : a.tmps[t]? = none ∨ a.tmps[t]? = some undef := by
              rw [Array.getD_eq_getD_getElem?] at hv
              cases ht : a.tmps[t]? with
              | none => exact .inl rfl
              | some v => rw [ht] at hv; exact .inr (by simpa using hv)
            rcases this with h1 | h1 <;> simp [yielded, ht, h1, undef]
          rw [if_neg (by simp [Region.wanted, hg, hyl])]
          exact hK' _ _ (next _ _ (dguard_false h (by simp [hgv]) hd hK))
        | true =>
          have hv := (hv1 hgv).v_inv.1
          have hyl : yielded ops a.tmps j = some b := by
            have hlt : t < a.tmps.size := by
              rcases Nat.lt_or_ge t a.tmps.size with hlt | hge
              · exact hlt
              · rw [Array.getD_eq_getD_getElem?, Array.getElem?_eq_none hge] at hv
                cases hv
            rw [Array.getD_eq_getD_getElem?, Array.getElem?_eq_getElem hlt] at hv
            simp only [Option.getD_some] at hv
            simp [yielded, ht, hlt, hv]
          by_cases hb : b = want
          · subst hb
            rw [if_pos (by simp [Region.wanted, hg, hyl])]
            have : (g && (if b then b else !b)) = true := by rw [hgv]; cases b <;> rfl
            rw [this] at hK
            exact step (dguard_true hT h0 h hd hK)
          · rw [if_neg (by simp [Region.wanted, hg, hyl, hb])]
            have : (g && (if want then b else !b)) = false := by rw [hgv]; cases b <;> cases want <;> simp at hb ⊢
            exact hK' _ _ (next _ _ (dguard_false h this hd hK))
      · exact hK.elim
end
end Go.Lift

namespace Go.Lift
open Go

section
variable {P : Program} {tt : TT} {A0 : Nat → Prop} {w0 : Home} {n : Nat} {os os' : Objs} {s t : DS} {a : Act} {w : World} {A A' : Nat → Prop} {B : Home} {m : List LObj}

theorem bnd_of_bnd0 {d : DV} (h : bnd0 m d = true) : bnd m d = true := by
  cases d <;> first | exact h | (simp [bnd0] at h)
def AlikeTo (m : List LObj) (os os' : Objs) : Prop := ∀ (i : Nat) (x : Value) (o : LObj), isRow (lget m i) = true ∨ isCells (lget m i) = true → os[i]? = some (x, o) → ∃ o', os'[i]? = some (x, o') ∧ kindIs o o'
theorem alikeTo_row {m : List LObj} {os os' : Objs} (ha : AlikeTo m os os') {i : Nat} {x : Value} {o : LObj} (hm : isRow (lget m i) = true) (h : os[i]? = some (x, o)) : ∃ o', os'[i]? = some (x, o') ∧ kindIs o o' := ha i x o (.inl hm) h
theorem alikeTo_cells {m : List LObj} {os os' : Objs} (ha : AlikeTo m os os') {i : Nat} {x : Value} {o : LObj} (hm : isCells (lget m i) = true) (h : os[i]? = some (x, o)) : ∃ o', os'[i]? = some (x, o') ∧ kindIs o o' := ha i x o (.inr hm) h
theorem RepV.trunc (k : Keeps A A' w w) (ha : AlikeTo m os os') {x : Value} {d : DV} (h : RepV A os w x d) : (bnd0 m d = true → RepV A' os' w x d) ∧ (bnd m d = true → RepV A' os' w x d) := by
  induction h with
  | imm h => exact ⟨fun _ => .imm (h.keep k), fun _ => .imm (h.keep k)⟩
  | @lp i off g _ _ h =>
    have key : isCells (lget m i) = true → RepV A' os' w (.pointer (some ⟨g, off, none⟩)) (.lp i off) := fun hb => by
      obtain ⟨o', h', hk⟩ := alikeTo_cells ha hb h
      cases o' <;> simp [kindIs] at hk
      exact .lp h'
    exact ⟨key, key⟩
  | @ap i off g _ _ h =>
    have key : isCells (lget m i) = true → RepV A' os' w (.pointer (some ⟨g, off, none⟩)) (.ap i off) := fun hb => by
      obtain ⟨o', h', hk⟩ := alikeTo_cells ha hb h
      cases o' <;> simp [kindIs] at hk
      exact .ap h'
    exact ⟨key, key⟩
  | @rp i kk off g n c e' sz' es' h =>
    have key : isRow (lget m i) = true → RepV A' os' w (.pointer (some ⟨g, kk * sz' + off, none⟩)) (.rp i kk off) := fun hb => by
      obtain ⟨o', h', hk⟩ := alikeTo_row ha hb h
      cases o' <;> simp [kindIs] at hk
      obtain ⟨rfl, rfl⟩ := hk
      exact .rp h'
    exact ⟨key, key⟩
  | @own i x _ _ _ h h1 =>
    have key : isRow (lget m i) = true → RepV A' os' w x (.own i) := fun hb => by
      obtain ⟨o', h', hk⟩ := alikeTo_row ha hb h
      cases o' <;> simp [kindIs] at hk
      exact .own h' h1
    exact ⟨key, key⟩
  | @stale i x y d h hd h1 =>
    have key : isRow (lget m i) = true → RepV A' os' w x d := fun hb => by
      obtain ⟨o', h', hk⟩ := alikeTo_row ha hb h
      cases o' <;> simp [kindIs] at hk
      exact .stale h' hd h1
    rcases hd with rfl | ⟨_, _, rfl⟩
    · exact ⟨key, key⟩
    · exact ⟨key, key⟩
  | @agg vs ds hl hone _ ih =>
    refine ⟨fun h => by simp [bnd0] at h, fun h => .agg hl hone (fun i v d hv hd => (ih i v d hv hd).1 ?_)⟩
    simp only [bnd, List.all_eq_true] at h
    exact h d (List.mem_of_getElem? hd)
  | @fn f vs ds hl hcap _ ih =>
    have key : bnd0 m (.fn f ds) = true → RepV A' os' w (.func f #[] vs.toArray) (.fn f ds) := fun hb => .fn hl hcap (fun i v d hv hd => by
      have hc := hcap d (List.mem_of_getElem? hd)
      simp only [bnd0, List.all_eq_true] at hb
      have h2 := hb d (List.mem_of_getElem? hd)
      cases d <;> simp [isCap, plainCap] at hc
      all_goals first | exact (ih i v _ hv hd).1 h2 | exact (ih i v _ hv hd).1 rfl | skip
      all_goals
        rename_i g caps
        have : caps = [] := by cases caps <;> simp_all [plainCap]
        subst this
        exact (ih i v _ hv hd).1 rfl)
    exact ⟨key, key⟩
  | tup => exact ⟨fun h => by simp [bnd0] at h, fun h => by simp [bnd, bnd0] at h⟩
  | wh _ h0 ih => exact ⟨fun h => by simp [bnd0] at h, fun h => by simp [bnd, bnd0] at h⟩
theorem RepV.le (k : Keeps A A' w w) (ha : AlikeTo m os os') {d d' : DV} (hd : dle d d') : ∀ {x : Value}, RepV A os w x d → bnd m d' = true → RepV A' os' w x d' := by
  induction hd with
  | refl => exact fun h hb => (h.trunc k ha).2 hb
  | nil hf =>
    intro x h _
    exact .imm ((h.lst_inv.le (.nil hf)).keep k)
  | nl =>
    intro x h _
    rw [h.nl_inv]
    exact .imm .nil
  | lst =>
    intro x h _
    exact .imm ((h.lst_inv.le .lst).keep k)
  | rows hl hr hh ih =>
    intro x h _
    exact .imm ((h.lst_inv.le (.rows hl hr hh)).keep k)
  | @agg cs ds hl hc ih =>
    intro x h hb
    cases h with
    | imm h => exact .imm ((h.le (.agg hl hc)).keep k)
    | stale h hd h1 => rcases hd with hd | ⟨_, _, hd⟩ <;> cases hd
    | @agg vs _ hl' hone h =>
      refine .agg (by omega) hone (fun i v d hv hd => ?_)
      have hlt := (List.getElem?_eq_some_iff.1 hv).1
      have hc' := List.getElem?_eq_getElem (l := cs) (i := i) (by omega)
      refine ih i _ d hc' hd (h i v _ hv hc') (bnd_of_bnd0 ?_)
      simp only [bnd, List.all_eq_true] at hb
      exact hb d (List.mem_of_getElem? hd)
  | tup hl hc ih =>
    intro x h hb
    simp [bnd, bnd0] at hb
  | junk => exact fun _ _ => .imm .junk

theorem envLe_look {e : List (Nat × DV)} : ∀ {e' : List (Nat × DV)} (t : Nat), EnvLe e e' → dle (look e t) (look e' t)
  | [], t, _ => .junk
  | p :: r, t, h => by
    simp only [look]
    split
    · rename_i hb
      have := Nat.eq_of_beq_eq_true hb
      subst this
      exact h.1
    · exact envLe_look t h.2
theorem bndE_look : ∀ {e : List (Nat × DV)} (t : Nat), bndE m e = true → bnd m (look e t) = true
  | [], t, _ => rfl
  | p :: r, t, h => by
    simp only [bndE, Bool.and_eq_true] at h
    simp only [look]
    split
    · exact h.1
    · exact bndE_look t h.2
theorem locLe_get : ∀ {l l' : List LObj} {i : Nat} {o' : LObj}, LocLe l l' → l'[i]? = some o' → ∃ o, l[i]? = some o ∧ ole o o'
  | l, [], i, o', _, hi => by simp at hi
  | [], _ :: _, i, o', h, hi => h.elim
  | o :: r, p :: r', 0, o', h, hi => by simp at hi; subst hi; exact ⟨o, rfl, h.1⟩
  | o :: r, p :: r', i + 1, o', h, hi => by
    obtain ⟨q, h1, h2⟩ := locLe_get (i := i) h.2 (by simpa using hi)
    exact ⟨q, by simpa using h1, h2⟩
theorem bndL_gh : ∀ {l : List LObj} {i : Nat} {cs : List DV}, bndL m l = true → l[i]? = some (.gh cs) → ∀ d ∈ cs, bnd0 m d = true
  | [], i, _, _, hi => by simp at hi
  | .gh cs' :: r, 0, cs, h, hi => by
    simp at hi
    subst hi
    simp only [bndL, Bool.and_eq_true, List.all_eq_true] at h
    exact h.1
  | .gh cs' :: r, i + 1, cs, h, hi => by
    simp only [bndL, Bool.and_eq_true] at h
    exact bndL_gh (i := i) h.2 (by simpa using hi)
  | .cells _ _ :: r, 0, cs, h, hi => by simp at hi
  | .cells _ _ :: r, i + 1, cs, h, hi => by
    simp only [bndL, Bool.and_eq_true] at h
    exact bndL_gh (i := i) h.2 (by simpa using hi)
  | .row _ _ _ :: r, 0, cs, h, hi => by simp at hi
  | .row _ _ _ :: r, i + 1, cs, h, hi => bndL_gh (i := i) (l := r) h (by simpa using hi)
  | .dead :: r, 0, cs, h, hi => by simp at hi
  | .dead :: r, i + 1, cs, h, hi => bndL_gh (i := i) (l := r) h (by simpa using hi)
  | .gone :: r, 0, cs, h, hi => by simp at hi
  | .gone :: r, i + 1, cs, h, hi => bndL_gh (i := i) (l := r) h (by simpa using hi)

theorem ole_kind {o o' : LObj} (h : ole o o') (hd : o' ≠ .dead) : kindIs o o' := by
  cases h with
  | refl => cases o <;> simp [kindIs]
  | cells _ _ => simp [kindIs]
  | gh _ _ => simp [kindIs]
  | dead => exact absurd rfl hd
theorem ole_dead {o o' : LObj} (h : ole o o') (hd : o' ≠ .dead) : o ≠ .dead := by
  cases h with
  | refl => exact hd
  | cells _ _ => simp
  | gh _ _ => simp
  | dead => exact absurd rfl hd
theorem zip_get {l : List LObj} {i : Nat} {x : Value} {o' : LObj} (h : ((os.map (·.1)).zip l)[i]? = some (x, o')) : l[i]? = some o' ∧ ∃ o, os[i]? = some (x, o) := by
  rw [List.getElem?_zip_eq_some] at h
  obtain ⟨h1, h2⟩ := h
  refine ⟨h2, ?_⟩
  rw [List.getElem?_map] at h1
  cases hi : os[i]? with
  | none => rw [hi] at h1; cases h1
  | some p => rw [hi] at h1; cases h1; exact ⟨p.2, rfl⟩
theorem Rep.le' (h : Rep A0 w0 n os s a w) (hst : s.le t) : ∃ os', Rep A0 w0 n os' t a w ∧ (∀ (i : Nat) (x : Value) (o' : LObj), os'[i]? = some (x, o') → ∃ o, os[i]? = some (x, o) ∧ ole o o') ∧ (∀ (v : Value) (d : DV), RepV (avoid A0 os) os w v d → bnd t.loc d = true → RepV (avoid A0 os') os' w v d) ∧ ∀ b, avoid A0 os' b → avoid A0 os b := by
  obtain ⟨he, hl, hb⟩ := hst
  simp only [Bool.and_eq_true] at hb
  obtain ⟨hb1, hb2⟩ := hb
  have get : ∀ {i : Nat} {x : Value} {o' : LObj}, ((os.map (·.1)).zip t.loc)[i]? = some (x, o') → ∃ o, os[i]? = some (x, o) ∧ ole o o' := by
    intro i x o' hi
    obtain ⟨h1, o, h2⟩ := zip_get hi
    obtain ⟨o2, h3, h4⟩ := locLe_get hl h1
    rw [h.loc, List.getElem?_map, h2] at h3
    cases h3
    exact ⟨o, h2, h4⟩
  have htl : ∀ {i : Nat}, i < t.loc.length → i < os.length := by
    intro i hi
    obtain ⟨o, ho, _⟩ := locLe_get hl (List.getElem?_eq_getElem hi)
    rw [h.loc] at ho
    simpa using (List.getElem?_eq_some_iff.1 ho).1
  have halike : AlikeTo t.loc os ((os.map (·.1)).zip t.loc) := by
    intro i x o hm ho
    have hlv : lget t.loc i ≠ .dead := by
      intro e
      rw [e] at hm
      simp [isRow, isCells] at hm
    have hi : i < t.loc.length := by
      rcases Nat.lt_or_ge i t.loc.length with h1 | h1
      · exact h1
      · exact absurd (by rw [lget_eq, List.getElem?_eq_none h1]; rfl) hlv
    obtain ⟨o2, h1, h2⟩ := locLe_get hl (List.getElem?_eq_getElem hi)
    rw [h.loc, List.getElem?_map, ho] at h1
    cases h1
    refine ⟨t.loc[i], ?_, ole_kind h2 (by rw [lget_eq, List.getElem?_eq_getElem hi] at hlv; exact hlv)⟩
    rw [List.getElem?_zip_eq_some, List.getElem?_map, ho]
    exact ⟨rfl, List.getElem?_eq_getElem hi⟩
  have hav : ∀ b, avoid A0 ((os.map (·.1)).zip t.loc) b → avoid A0 os b := by
    rintro b (hb | ⟨i, x, o', hi, hd, hbb⟩)
    · exact .inl hb
    · obtain ⟨o, ho, hle⟩ := get hi
      exact .inr ⟨i, x, o, ho, ole_dead hle hd, hbb⟩
  have k : Keeps (avoid A0 os) (avoid A0 ((os.map (·.1)).zip t.loc)) w w := Keeps.less hav
  refine ⟨(os.map (·.1)).zip t.loc, ⟨h.size, h.defers, h.gr, h.a0, ?_, fun u => (h.env u).le k halike (envLe_look u he) (bndE_look u hb1), fun i x o' hi => ?_, fun i j x o y o' b hi hj d1 d2 b1 b2 => ?_⟩, fun i x o' hi => get hi, fun v d hv hb => (hv.trunc k halike).2 hb, hav⟩
  · rw [List.map_snd_zip]
    rw [List.length_map]
    rcases Nat.lt_or_ge os.length t.loc.length with hlt | hge
    · exact absurd (htl hlt) (by omega)
    · exact hge
  · obtain ⟨o, ho, hle⟩ := get hi
    have hob := h.obj i x o ho
    have hti := (zip_get hi).1
    cases hle with
    | refl =>
      cases o' with
      | dead => exact trivial
      | gone => exact hob
      | gh ds =>
        obtain ⟨e1, e2, e3, e4⟩ := hob
        exact ⟨e1, e2, e3, fun j v d hv hd => ((e4 j v d hv hd).trunc k halike).1 (bndL_gh hb2 hti d (List.mem_of_getElem? hd))⟩
      | cells ty cs =>
        obtain ⟨g, arr, rfl, hB, hh, hs, hone, hr⟩ := hob
        exact ⟨g, arr, rfl, hB, hh, hs, hone, fun j v d hv hd => ((hr j v d hv hd).trunc k halike).1 (bndL_get hb2 hti d (List.mem_of_getElem? hd))⟩
      | row e sz es =>
        obtain ⟨hmine, xs, hown, hsz, hrl, hone, hr⟩ := hob
        exact ⟨hmine, xs, hown, hsz, hrl, hone, fun k' j r d h1 h2 => by
          obtain ⟨v, hv, hi⟩ := hr k' j r d h1 h2
          exact ⟨v, hv, hi.keep k⟩⟩
    | dead => exact trivial
    | @gh cs ds hl2 hc =>
      obtain ⟨e1, e2, e3, e4⟩ := hob
      refine ⟨e1, by omega, e3, fun j v d hv hd => ?_⟩
      have hlt := (List.getElem?_eq_some_iff.1 hd).1
      have hc' := List.getElem?_eq_getElem (l := cs) (i := j) (by omega)
      exact (e4 j v _ hv hc').le k halike (hc j _ d hc' hd) (bnd_of_bnd0 (bndL_gh hb2 hti d (List.mem_of_getElem? hd)))
    | @cells ty cs ds hl2 hc =>
      obtain ⟨g, arr, rfl, hB, hh, hs, hone, hr⟩ := hob
      refine ⟨g, arr, rfl, hB, hh, by omega, hone, fun j v d hv hd => ?_⟩
      have hlt := (List.getElem?_eq_some_iff.1 hd).1
      have hc' := List.getElem?_eq_getElem (l := cs) (i := j) (by omega)
      exact (hr j v _ hv hc').le k halike (hc j _ d hc' hd) (bnd_of_bnd0 (bndL_get hb2 hti d (List.mem_of_getElem? hd)))
  · obtain ⟨p, hp, l1⟩ := get hi
    obtain ⟨q, hq, l2⟩ := get hj
    exact h.inj i j x p y q b hp hq (ole_dead l1 d1) (ole_dead l2 d2) b1 b2

theorem Rep.le (h : Rep A0 w0 n os s a w) (hst : s.le t) : ∃ os', Rep A0 w0 n os' t a w := by
  obtain ⟨os', h', _⟩ := h.le' hst
  exact ⟨os', h'⟩

theorem push_nil {e : TypeId} {sz : Nat} (h : Rep A0 w0 n os s a w) : Rep A0 w0 n (os ++ [(.slice none 0 0, .row e (sz + 1) [])]) ⟨s.env, s.loc ++ [.row e (sz + 1) []]⟩ a w :=
  row_push (x := .slice none 0 0) (e := e) (sz := sz + 1) (es := []) (xs := []) h (grownBy.refl' w none) (by simp [blk]) ⟨by simp, .inl ⟨rfl, rfl⟩⟩ (Nat.succ_pos _) .nil
theorem shutK_ok {t : Nat} {K : DS → Prop} {os : Objs} {s : DS} (h : Rep A0 w0 n os s a w) (hK : shutK t s K) : ∃ os' s', Rep A0 w0 n os' s' a w ∧ K s' := by
  unfold shutK at hK
  split at hK
  · split at hK
    · rename_i e sz es hl
      rw [h.loc] at hl
      obtain ⟨x', hi'⟩ := lget_os hl (by simp)
      obtain ⟨h', _⟩ := h.shut hi'
      exact ⟨_, _, h', hK⟩
    · exact ⟨_, _, h, hK⟩
  · exact ⟨_, _, h, hK⟩
theorem RepV.ren {os' : Objs} {ρ : Nat → Nat} (hget : ∀ (k : Nat) x ob, (∀ ds, ob ≠ .gh ds) → ob ≠ .dead → os[k]? = some (x, ob) → os'[ρ k]? = some (x, mvO ρ ob)) (k : Keeps A A' w w) {v : Value} {d : DV} (h : RepV A os w v d) : (v.oneCell' = true → RepV A' os' w v (mv0 ρ d)) ∧ RepV A' os' w v (mvT ρ d) := by
  have himm : ∀ {v : Value} {d : DV}, Imm A w v d → Imm A' w v (mv0 ρ d) ∧ Imm A' w v (mvT ρ d) := by
    intro v d hz
    induction hz with
    | v h => exact ⟨.v h, .v h⟩
    | lst xs hn hc hm hf hsz hA hb hone hcell hx ih => exact ⟨(Imm.lst xs hn hc hm hf hsz hA hb hone hcell hx).keep k, (Imm.lst xs hn hc hm hf hsz hA hb hone hcell hx).keep k⟩
    | nil => exact ⟨.nil, .nil⟩
    | nl => exact ⟨.nl, .nl⟩
    | agg hl hone h ih =>
      refine ⟨(Imm.agg hl hone h).keep k, .agg (by simpa using hl) hone (fun j v d hv hd => ?_)⟩
      rw [List.getElem?_map] at hd
      rename_i ds
      cases hj : ds[j]? with
      | none => rw [hj] at hd; cases hd
      | some e => rw [hj] at hd; simp at hd; subst hd; exact (ih j v e hv hj).1
    | @tup vs ds hl h ih =>
      refine ⟨(Imm.tup hl h).keep k, .tup (by simpa using hl) (fun j v d hv hd => ?_)⟩
      rw [List.getElem?_map] at hd
      cases hj : ds[j]? with
      | none => rw [hj] at hd; cases hd
      | some e => rw [hj] at hd; simp at hd; subst hd; exact (ih j v e hv hj).1
    | ip xs hA hb hone hcell hx _ => exact ⟨(Imm.ip xs hA hb hone hcell hx).keep k, (Imm.ip xs hA hb hone hcell hx).keep k⟩
    | @fn f vs ds hl h _ =>
      have key : Imm A' w (.func f #[] vs.toArray) (.fn f (ds.map (mvC ρ))) := by
        refine .fn (by simpa using hl) (fun j v d hv hd => ?_)
        rw [List.getElem?_map] at hd
        cases hj : ds[j]? with
        | none => rw [hj] at hd; cases hd
        | some e =>
          rw [hj] at hd
          simp at hd
          subst hd
          have h2 := h j v e hv hj
          cases e
          case lp => cases h2
          all_goals exact h2.keep k
      exact ⟨key, key⟩
    | wh _ h0 ih => exact ⟨.wh (fun hb => (ih hb).1) h0, .wh (fun hb => (ih hb).2) h0⟩
    | junk => exact ⟨.junk, .junk⟩
  induction h with
  | imm h => exact ⟨fun _ => .imm (himm h).1, .imm (himm h).2⟩
  | lp h => have := hget _ _ _ (by simp) (by simp) h; exact ⟨fun _ => .lp this, .lp this⟩
  | ap h => have := hget _ _ _ (by simp) (by simp) h; exact ⟨fun _ => .ap this, .ap this⟩
  | rp h => have := hget _ _ _ (by simp) (by simp) h; exact ⟨fun _ => .rp this, .rp this⟩
  | own h h1 => have := hget _ _ _ (by simp) (by simp) h; exact ⟨fun _ => .own this h1, .own this h1⟩
  | stale h hd h1 =>
    have := hget _ _ _ (by rcases hd with rfl | ⟨_, _, rfl⟩ <;> simp) (by rcases hd with rfl | ⟨_, _, rfl⟩ <;> simp) h
    rcases hd with rfl | ⟨_, _, rfl⟩
    · exact ⟨fun _ => .stale this (.inl rfl) h1, .stale this (.inl rfl) h1⟩
    · exact ⟨fun _ => .stale this (.inr ⟨_, _, rfl⟩) h1, .stale this (.inr ⟨_, _, rfl⟩) h1⟩
  | @agg vs ds hl hone _ ih =>
    refine ⟨fun h => by simp [Value.oneCell'] at h, .agg (by simpa using hl) hone (fun j v d hv hd => ?_)⟩
    rw [List.getElem?_map] at hd
    cases hj : ds[j]? with
    | none => rw [hj] at hd; cases hd
    | some e => rw [hj] at hd; simp at hd; subst hd; exact (ih j v e hv hj).1 (hone v (List.mem_of_getElem? hv))
  | @fn f vs ds hl hcap hh ih =>
    have key : RepV A' os' w (.func f #[] vs.toArray) (.fn f (ds.map (mvC ρ))) := by
      refine .fn (by simpa using hl) (fun d hd => ?_) (fun j v d hv hd => ?_)
      · obtain ⟨e, he, rfl⟩ := List.mem_map.1 hd
        have := hcap e he
        cases e <;> first | exact this | rfl
      · rw [List.getElem?_map] at hd
        cases hj : ds[j]? with
        | none => rw [hj] at hd; cases hd
        | some e =>
          rw [hj] at hd
          simp at hd
          subst hd
          have h2 := (ih j v e hv hj).2
          have hc := hcap e (List.mem_of_getElem? hj)
          cases e
          case fn g cs =>
            have : cs = [] := by cases cs <;> simp_all [isCap, plainCap]
            subst this
            exact h2
          all_goals first | exact h2 | (simp [isCap, plainCap] at hc)
    exact ⟨fun _ => key, key⟩
  | @tup vs ds hl hown hh ih =>
    refine ⟨fun h1 => by simp [Value.oneCell'] at h1, .tup (by simpa using hl) (fun j v d hv hd => ?_) (fun j v d hv hd => ?_)⟩
    · rw [List.getElem?_map] at hd
      cases hj : ds[j]? with
      | none => rw [hj] at hd; cases hd
      | some e =>
        rw [hj] at hd
        simp at hd
        subst hd
        rcases hown j v e hv hj with ho | ho
        · cases e <;> simp [isOwn] at ho
          exact .inl rfl
        · exact .inr (himm ho).1
    · rw [List.getElem?_map] at hd
      cases hj : ds[j]? with
      | none => rw [hj] at hd; cases hd
      | some e =>
        rw [hj] at hd
        simp at hd
        subst hd
        rcases hown j v e hv hj with ho | ho
        · have h2 := hh j v e hv hj
          cases e <;> simp [isOwn] at ho
          exact (ih j v _ hv hj).1 h2.own_inv.1
        · exact .imm (himm ho).1
  | wh _ h0 ih => exact ⟨fun h1 => .wh (fun hb => (ih hb).1 h1) h0, .wh (fun hb => (ih hb).2) h0⟩
theorem mapLO_eq (f : LObj → LObj) : ∀ l : List LObj, mapLO f l = l.map f
  | [] => rfl
  | o :: r => by rw [mapLO, mapLO_eq f r, List.map_cons]
theorem swp_eq (i j k : Nat) : swp i j k = if k = i then j else if k = j then i else k := by
  unfold swp
  cases h : Nat.beq k i with
  | true => simp [Nat.eq_of_beq_eq_true h]
  | false =>
    have h1 : k ≠ i := fun e => by simp [e] at h
    cases h2 : Nat.beq k j with
    | true =>
      have h3 := Nat.eq_of_beq_eq_true h2
      rw [if_neg h1, if_pos h3]
    | false =>
      have h3 : k ≠ j := fun e => by simp [e] at h2
      simp [h1, h3]
theorem swp_swp (i j k : Nat) : swp i j (swp i j k) = k := by
  simp only [swp_eq]
  split <;> split <;> (try split) <;> omega
theorem swapK_ok {i j : Nat} {K : DS → Prop} {os : Objs} {s : DS} (h : Rep A0 w0 n os s a w) (hK : swapK i j s K) : ∃ os' s', Rep A0 w0 n os' s' a w ∧ K s' := by
  unfold swapK at hK
  split at hK
  case h_2 => exact hK.elim
  rename_i hb
  have hlen : s.loc.length = os.length := by rw [h.loc, List.length_map]
  simp only [Bool.and_eq_true, Nat.blt_eq, hlen] at hb
  obtain ⟨hi, hj⟩ := hb
  have hρ : ∀ k, swp i j k < os.length ↔ k < os.length := fun k => by
    rw [swp_eq]
    split <;> (try split) <;> omega
  let os' : Objs := (List.range os.length).map fun k => ((os.getD (swp i j k) (undef, .dead)).1, mvG (swp i j) (os.getD (swp i j k) (undef, .dead)).2)
  have key : ∀ k, os'[k]? = (os[swp i j k]?).map fun p => (p.1, mvG (swp i j) p.2) := fun k => by
    rcases Nat.lt_or_ge k os.length with hk | hk
    · have h2 := (hρ k).2 hk
      simp [os', hk, h2, List.getElem?_range]
    · have h2 : ¬ swp i j k < os.length := fun e => absurd ((hρ k).1 e) (by omega)
      rw [List.getElem?_eq_none (by simp [os']; omega), List.getElem?_eq_none (by omega)]
      rfl
  have hget : ∀ (k : Nat) x ob, os[k]? = some (x, ob) → os'[swp i j k]? = some (x, mvG (swp i j) ob) := fun k x ob hk => by
    rw [key, swp_swp, hk]
    rfl
  have hget' : ∀ (k : Nat) x ob, (∀ ds, ob ≠ .gh ds) → ob ≠ .dead → os[k]? = some (x, ob) → os'[swp i j k]? = some (x, mvO (swp i j) ob) := fun k x ob hn _ hk => by
    have := hget k x ob hk
    cases ob with
    | gh ds => exact absurd rfl (hn ds)
    | _ => exact this
  have back : ∀ {k : Nat} {x : Value} {o' : LObj}, os'[k]? = some (x, o') → ∃ o, os[swp i j k]? = some (x, o) ∧ o' = mvG (swp i j) o := fun {k x o'} hk => by
    rw [key] at hk
    cases he : os[swp i j k]? with
    | none => rw [he] at hk; cases hk
    | some p =>
      rw [he] at hk
      cases hk
      exact ⟨p.2, rfl, rfl⟩
  have hdead : ∀ {o : LObj}, mvG (swp i j) o ≠ .dead → o ≠ .dead := fun {o} hd e => by
    subst e
    exact hd rfl
  have hav : ∀ b, avoid A0 os' b → avoid A0 os b := by
    rintro b (hb | ⟨k, x, o', hk, hd, hbb⟩)
    · exact .inl hb
    · obtain ⟨o, ho, rfl⟩ := back hk
      exact .inr ⟨_, x, o, ho, hdead hd, hbb⟩
  have k : Keeps (avoid A0 os) (avoid A0 os') w w := Keeps.less hav
  refine ⟨os', _, ⟨h.size, h.defers, h.gr, h.a0, ?_, fun u => ?_, fun q x o' hq => ?_, fun p q x o y o' b hp hq d1 d2 b1 b2 => ?_⟩, hK⟩
  · show swapL (mapLO (mvG (swp i j)) s.loc) i j = os'.map (·.2)
    have hl : ∀ k, (mapLO (mvG (swp i j)) s.loc)[k]? = (os[k]?).map fun (p : Value × LObj) => mvG (swp i j) p.2 := fun k => by
      rw [mapLO_eq, h.loc, List.map_map, List.getElem?_map]
      rfl
    have hg : ∀ k, k < os.length → (os[k]?).map (fun (p : Value × LObj) => mvG (swp i j) p.2) = some (lget (mapLO (mvG (swp i j)) s.loc) k) := fun k hk => by
      rw [lget_eq, hl, List.getElem?_eq_getElem hk]
      rfl
    have hln : (mapLO (mvG (swp i j)) s.loc).length = os.length := by
      rw [mapLO_eq, List.length_map, hlen]
    apply List.ext_getElem?
    intro q
    rw [List.getElem?_map, key]
    unfold swapL
    rw [lset_eq, lset_eq, List.getElem?_set, List.getElem?_set, hl, Option.map_map]
    simp only [List.length_set, hln]
    by_cases e1 : j = q
    · subst e1
      have : swp i j j = i := by
        rw [swp_eq]
        split <;> simp_all
      rw [if_pos rfl, if_pos hj, this]
      exact (hg i hi).symm
    · rw [if_neg e1]
      by_cases e2 : i = q
      · subst e2
        have : swp i j i = j := by
          rw [swp_eq]
          simp
        rw [if_pos rfl, if_pos hi, this]
        exact (hg j hj).symm
      · have : swp i j q = q := by
          rw [swp_eq, if_neg (fun e => e2 e.symm), if_neg (fun e => e1 e.symm)]
        rw [if_neg e2, this]
        rfl
  · show RepV _ _ _ _ (look (mapE (mvT (swp i j)) s.env) u)
    rw [look_mapE _ rfl]
    exact (RepV.ren hget' k (h.env u)).2
  · obtain ⟨o, ho, rfl⟩ := back hq
    have hob := h.obj _ x o ho
    cases o with
    | dead => exact trivial
    | gone => exact hob
    | gh ds =>
      obtain ⟨hx, hl, hone, hr⟩ := hob
      refine ⟨hx, by simpa using hl, hone, fun j' v d hv hd => ?_⟩
      rw [List.getElem?_map] at hd
      cases hc : ds[j']? with
      | none => rw [hc] at hd; cases hd
      | some e =>
        rw [hc] at hd
        simp at hd
        subst hd
        exact (RepV.ren hget' k (hr j' v e hv hc)).1 (hone v (List.mem_of_getElem? hv))
    | cells ty cs =>
      obtain ⟨g, arr, rfl, hB, hh, hs, hone, hr⟩ := hob
      refine ⟨g, arr, rfl, hB, hh, by simpa using hs, hone, fun j' v d hv hd => ?_⟩
      rw [List.getElem?_map] at hd
      cases hc : cs[j']? with
      | none => rw [hc] at hd; cases hd
      | some e =>
        rw [hc] at hd
        simp at hd
        subst hd
        exact (RepV.ren hget' k (hr j' v e hv hc)).1 (hone v (List.mem_of_getElem? (by rw [Array.getElem?_toList]; exact hv)))
    | row e sz es =>
      obtain ⟨hmine, xs, hown, hsz, hrl, hone, hr⟩ := hob
      exact ⟨hmine, xs, hown, hsz, hrl, hone, fun k' j' r d h1 h2 => by
        obtain ⟨v, hv, hi⟩ := hr k' j' r d h1 h2
        exact ⟨v, hv, hi.keep k⟩⟩
  · obtain ⟨o1, ho1, rfl⟩ := back hp
    obtain ⟨o2, ho2, rfl⟩ := back hq
    have := h.inj _ _ x o1 y o2 b ho1 ho2 (hdead d1) (hdead d2) b1 b2
    rw [← swp_swp i j p, this, swp_swp]
theorem end_ok : ∀ (ads : List Ad) {os : Objs} {s : DS} {K : DS → Prop}, Rep A0 w0 n os s a w → endK ads s K → ∃ os' s', Rep A0 w0 n os' s' a w ∧ K s'
  | [], os, s, K, h, hK => ⟨os, s, h, hK⟩
  | .shut t :: r, os, s, K, h, hK => by
    obtain ⟨os', s', h', hK'⟩ := shutK_ok h hK
    exact end_ok r h' hK'
  | .slot _ _ _ :: r, os, s, K, h, hK => end_ok r h hK
  | .cell _ _ _ _ :: r, os, s, K, h, hK => end_ok r h hK
  | .swap i j :: r, os, s, K, h, hK => by
    obtain ⟨os', s', h', hK'⟩ := swapK_ok h hK
    exact end_ok r h' hK'
  | .shutc _ _ :: r, os, s, K, h, hK => end_ok r h hK
  | .fresh _ _ :: r, os, s, K, h, hK => end_ok r h hK
  | .xchg _ _ :: r, os, s, K, h, hK => end_ok r h hK
  | .bury _ :: r, os, s, K, h, hK => end_ok r h hK
  | .home t i :: r, os, s, K, h, hK => by
    unfold endK at hK
    split at hK
    · obtain ⟨os', s', h', hK'⟩ := swapK_ok h hK
      exact end_ok r h' hK'
    · exact end_ok r h hK
theorem Rep.buried {i : Nat} {y : Value} {o0 : LObj} (h : Rep A0 w0 n os s a w) (hi : os[i]? = some (y, o0)) (ho : o0 = .dead ∨ ∃ e sz es, o0 = .row e sz es) : Rep A0 w0 n (os.set i (.nilFunc, .gone)) ⟨s.env, lset s.loc i .gone⟩ a w := by
  have hlti := (List.getElem?_eq_some_iff.1 hi).1
  have hget : ∀ {j : Nat} {z : Value} {o' : LObj}, (os.set i (.nilFunc, .gone))[j]? = some (z, o') → (z = .nilFunc ∧ o' = .gone) ∨ (j ≠ i ∧ os[j]? = some (z, o')) := by
    intro j z o' hj
    by_cases e2 : j = i
    · subst e2
      rw [List.getElem?_set_self hlti] at hj
      cases hj
      exact .inl ⟨rfl, rfl⟩
    · rw [List.getElem?_set_ne (fun e' => e2 e'.symm)] at hj
      exact .inr ⟨e2, hj⟩
  have ha : ∀ (q : Nat) (x : Value) (o : LObj), os[q]? = some (x, o) → o ≠ .dead → (∀ e sz es, o ≠ .row e sz es) → (os.set i (.nilFunc, .gone))[q]? = some (x, o) := fun q x o hq hd hr => by
    rw [List.getElem?_set_ne (fun e => by
      subst e
      rw [hi] at hq
      cases hq
      rcases ho with rfl | ⟨_, _, _, rfl⟩
      · exact hd rfl
      · exact hr _ _ _ rfl)]
    exact hq
  have hgone : (os.set i (.nilFunc, .gone))[i]? = some (.nilFunc, .gone) := List.getElem?_set_self hlti
  have har : ∀ (q : Nat) (x : Value) (o : LObj), q ≠ i → os[q]? = some (x, o) → (os.set i (.nilFunc, .gone))[q]? = some (x, o) := fun q x o hq h => by
    rw [List.getElem?_set_ne (fun e => hq e.symm)]
    exact h
  have hav : ∀ b, avoid A0 (os.set i (.nilFunc, .gone)) b → avoid A0 os b := by
    rintro b (hv | ⟨j, z, o', hj, hdd, hbb⟩)
    · exact .inl hv
    · rcases hget hj with ⟨rfl, rfl⟩ | ⟨_, hj⟩
      · simp [blk] at hbb
      · exact .inr ⟨_, _, _, hj, hdd, hbb⟩
  have k : Keeps (avoid A0 os) (avoid A0 (os.set i (.nilFunc, .gone))) w w := Keeps.less hav
  have hrep : ∀ {x : Value} {d : DV}, RepV (avoid A0 os) os w x d → RepV (avoid A0 (os.set i (.nilFunc, .gone))) (os.set i (.nilFunc, .gone)) w x d := by
    intro x d hr
    induction hr with
    | imm h => exact .imm (h.keep k)
    | lp h => exact .lp (ha _ _ _ h (by simp) (by simp))
    | ap h => exact .ap (ha _ _ _ h (by simp) (by simp))
    | @rp q _ _ _ _ _ _ _ _ h =>
      by_cases e : q = i
      · subst e
        exact .stale hgone (.inr ⟨_, _, rfl⟩) rfl
      · exact .rp (har _ _ _ e h)
    | @own q _ _ _ _ h h1 =>
      by_cases e : q = i
      · subst e
        exact .stale hgone (.inl rfl) h1
      · exact .own (har _ _ _ e h) h1
    | stale h hd h1 => exact .stale (ha _ _ _ h (by simp) (by simp)) hd h1
    | agg hl hone _ ih => exact .agg hl hone ih
    | tup hl hown _ ih => exact .tup hl (fun i v d hv hd => (hown i v d hv hd).imp id (fun h => h.keep k)) ih
    | fn hl hcap _ ih => exact .fn hl hcap ih
    | wh _ h0 ih => exact .wh ih h0
  refine ⟨h.size, h.defers, h.gr, h.a0, by rw [lset_eq, h.loc, List.map_set], fun t => hrep (h.env t), fun j z o' hj => ?_, fun j1 j2 z o1 z2 o2 b h1 h2 d1 d2 b1 b2 => ?_⟩
  · rcases hget hj with ⟨rfl, rfl⟩ | ⟨_, hj⟩
    · exact rfl
    · have hob := h.obj j z o' hj
      cases o' with
      | dead => exact trivial
      | gone => exact hob
      | gh ds =>
        obtain ⟨e1, e2, e3, e4⟩ := hob
        exact ⟨e1, e2, e3, fun i v d hv hd => hrep (e4 i v d hv hd)⟩
      | cells ty cs =>
        obtain ⟨g, arr, rfl, hB, hh, hs, hone, hr⟩ := hob
        exact ⟨g, arr, rfl, hB, hh, hs, hone, fun j' v d hv hd => hrep (hr j' v d hv hd)⟩
      | row e sz es =>
        obtain ⟨hmine, xs, hown, hsz, hrl, hone, hr⟩ := hob
        exact ⟨hmine, xs, hown, hsz, hrl, hone, fun k' j' r d h1 h2 => by
          obtain ⟨v, hv, hi⟩ := hr k' j' r d h1 h2
          exact ⟨v, hv, hi.keep k⟩⟩
  · rcases hget h1 with ⟨rfl, rfl⟩ | ⟨_, g1⟩
    · simp [blk] at b1
    · rcases hget h2 with ⟨rfl, rfl⟩ | ⟨_, g2⟩
      · simp [blk] at b2
      · exact h.inj _ _ _ _ _ _ b g1 g2 d1 d2 b1 b2
theorem adopt_ok : ∀ (ads : List Ad) {os : Objs} {s : DS} {K : DS → Prop}, Rep A0 w0 n os s a w → adoptK ads s K → ∃ os' s', Rep A0 w0 n os' s' a w ∧ K s'
  | [], os, s, K, h, hK => ⟨os, s, h, hK⟩
  | .shut t :: r, os, s, K, h, hK => by
    obtain ⟨os', s', h', hK'⟩ := shutK_ok h hK
    exact adopt_ok r h' hK'
  | .swap _ _ :: r, os, s, K, h, hK => adopt_ok r h hK
  | .home _ _ :: r, os, s, K, h, hK => adopt_ok r h hK
  | .xchg i j :: r, os, s, K, h, hK => by
    obtain ⟨os', s', h', hK'⟩ := swapK_ok h hK
    exact adopt_ok r h' hK'
  | .bury i :: r, os, s, K, h, hK => by
    unfold adoptK at hK
    split at hK
    · rename_i hf
      have key : ∃ y o, os[i]? = some (y, o) ∧ (o = .dead ∨ ∃ e sz es, o = .row e sz es) := by
        rw [Bool.or_eq_true] at hf
        rcases hf with hf | hf
        · unfold freeAt at hf
          rw [Bool.and_eq_true] at hf
          have hlt : i < os.length := by
            have := Nat.le_of_ble_eq_true hf.1
            have hl := h.len
            omega
          have hg := List.getElem?_eq_getElem hlt
          rcases hp : os[i] with ⟨y, o⟩
          rw [hp] at hg
          have hd := hf.2
          rw [h.loc, lget_eq, List.getElem?_map, hg] at hd
          have : o = .dead := by cases o <;> simp [isDead] at hd <;> rfl
          exact ⟨y, o, hg, .inl this⟩
        · rw [h.loc, lget_eq, List.getElem?_map] at hf
          cases hg : os[i]? with
          | none => rw [hg] at hf; cases hf
          | some p =>
            rw [hg] at hf
            rcases p with ⟨y, o⟩
            cases o <;> simp [isRow] at hf
            exact ⟨y, _, rfl, .inr ⟨_, _, _, rfl⟩⟩
      obtain ⟨y, o, hg, ho⟩ := key
      exact adopt_ok r (h.buried hg ho) hK
    · exact hK.elim
  | .shutc i off :: r, os, s, K, h, hK => by
    unfold adoptK at hK
    split at hK
    · split at hK
      · obtain ⟨os', s', h', hK, _, _⟩ := shutIn_ok _ h hK
        exact adopt_ok r h' hK
      · exact hK.elim
    · exact hK.elim
  | .fresh e sz :: r, os, s, K, h, hK => by
    unfold adoptK at hK
    split at hK
    · exact adopt_ok r (push_nil h) hK
    · exact hK.elim
  | .slot t e sz :: r, os, s, K, h, hK => by
    unfold adoptK at hK
    split at hK
    · rename_i sz el
      have hp := push_nil (e := e) (sz := sz) h
      have hv := h.env t
      rw [el] at hv
      have hv := hv.nl_inv
      have hown : RepV (avoid A0 (os ++ [(.slice none 0 0, .row e (sz + 1) [])])) (os ++ [(.slice none 0 0, .row e (sz + 1) [])]) w (a.tmps.getD t undef) (.own s.loc.length) := by
        rw [hv, h.len]
        exact .own last_obj rfl
      refine adopt_ok r (os := os ++ [(.slice none 0 0, .row e (sz + 1) [])]) ⟨hp.size, hp.defers, hp.gr, hp.a0, hp.loc, fun u => ?_, hp.obj, hp.inj⟩ hK
      simp only [look]
      split
      · rename_i hb
        have := Nat.eq_of_beq_eq_true hb
        subst this
        exact hown
      · exact hp.env u
    · exact hK.elim
  | .cell i off e sz :: r, os, s, K, h, hK => by
    unfold adoptK at hK
    split at hK
    · rename_i ty cs sz hl
      split at hK
      · rename_i hc
        have hp := push_nil (e := e) (sz := sz) h
        rw [h.loc] at hl
        obtain ⟨x, hi⟩ := lget_os hl (by simp)
        have hlt := (List.getElem?_eq_some_iff.1 hi).1
        have hi' : (os ++ [(Value.slice none 0 0, LObj.row e (sz + 1) [])])[i]? = some (x, .cells ty cs) := by rw [List.getElem?_append_left hlt]; exact hi
        have hup := hp.update (ob' := .cells ty (dset cs off (.own s.loc.length))) hi' rfl (by simp) (by simp) (grownBy.refl' w _) ?_
        · refine adopt_ok r (s := ⟨s.env, lset (s.loc ++ [.row e (sz + 1) []]) i (.cells ty (dset cs off (.own s.loc.length)))⟩) hup ?_
          have : lset (s.loc ++ [.row e (sz + 1) []]) i (.cells ty (dset cs off (.own s.loc.length))) = lset s.loc i (.cells ty (dset cs off (.own s.loc.length))) ++ [.row e (sz + 1) []] := by
            rw [lset_eq, lset_eq, List.set_append_left _ _ (by rw [h.len]; exact hlt)]
          rw [this]
          exact hK
        · obtain ⟨g, arr, hx, hB, hh, hs, hone, hr⟩ := hp.obj i x _ hi'
          have hal := alike_set (ob' := .cells ty (dset cs off (.own s.loc.length))) hi' rfl
          have hk := keeps_set (A0 := A0) (ob' := .cells ty (dset cs off (.own s.loc.length))) hi' (by simp) (grownBy.refl' w _)
          refine ⟨g, arr, hx, hB, hh, by rw [dset_eq]; simpa using hs, hone, fun j v d hv hd => ?_⟩
          rw [dset_eq, List.getElem?_set] at hd
          split at hd
          · rename_i hj
            subst hj
            split at hd
            · cases hd
              have := (hr _ v _ hv hc).nl_inv
              subst this
              rw [h.len]
              refine .own (e := e) (sz := sz + 1) (es := []) ?_ rfl
              rw [List.getElem?_set_ne (by omega)]
              exact last_obj
            · cases hd
          · exact (hr j v d hv hd).keep hk hal
      · exact hK.elim
    · exact hK.elim
end
end Go.Lift

namespace Go.Lift
open Go

theorem look_notin : ∀ {l e : List (Nat × DV)} {t : Nat}, t ∉ l.map (·.1) → look (l ++ e) t = look e t
  | [], e, t, _ => rfl
  | p :: r, e, t, h => by
    simp only [List.map_cons, List.mem_cons, not_or] at h
    simp only [List.cons_append, look]
    split
    · rename_i hb
      exact absurd (Nat.eq_of_beq_eq_true hb).symm h.1
    · exact look_notin h.2
theorem look_in : ∀ {l e e' : List (Nat × DV)} {t : Nat}, t ∈ l.map (·.1) → look (l ++ e) t = look (l ++ e') t
  | [], e, e', t, h => by simp at h
  | p :: r, e, e', t, h => by
    simp only [List.map_cons, List.mem_cons] at h
    simp only [List.cons_append, look]
    split
    · rfl
    · rename_i hb
      rcases h with h | h
      · subst h; simp at hb
      · exact look_in h
theorem lget_lset (l : List LObj) (i j : Nat) (x : LObj) : lget (lset l i x) j = if i = j ∧ j < l.length then x else lget l j := by
  rw [lget_eq, lget_eq, lset_eq, List.getElem?_set]
  by_cases h : i = j
  · subst h
    by_cases h2 : i < l.length
    · simp [h2]
    · simp [h2]
  · simp [h]
theorem length_lset (l : List LObj) (i : Nat) (x : LObj) : (lset l i x).length = l.length := by rw [lset_eq]; simp

theorem lsets_len : ∀ (wr : List (Nat × LObj)) (l : List LObj), (lsets l wr).length = l.length
  | [], l => rfl
  | p :: r, l => by rw [lsets, lsets_len r, length_lset]
theorem lsets_ne {k : Nat} : ∀ {wr : List (Nat × LObj)} {l : List LObj}, (¬ ∃ ob, (k, ob) ∈ wr) → lget (lsets l wr) k = lget l k
  | [], l, _ => rfl
  | p :: r, l, h => by
    have h1 : p.1 ≠ k := fun e => h ⟨p.2, by rw [← e]; simp⟩
    rw [lsets, lsets_ne (fun ⟨ob, ho⟩ => h ⟨ob, by simp [ho]⟩), lget_lset, if_neg (fun hh => h1 hh.1)]
theorem lsets_eq {k : Nat} : ∀ {wr : List (Nat × LObj)} {l l' : List LObj}, (∃ ob, (k, ob) ∈ wr) → l.length = l'.length → lget (lsets l wr) k = lget (lsets l' wr) k
  | [], l, l', h, _ => by obtain ⟨_, h⟩ := h; simp at h
  | p :: r, l, l', h, hl => by
    by_cases hr : ∃ ob, (k, ob) ∈ r
    · rw [lsets, lsets]
      exact lsets_eq hr (by rw [length_lset, length_lset, hl])
    · rw [lsets, lsets, lsets_ne hr, lsets_ne hr]
      obtain ⟨ob, ho⟩ := h
      rcases List.mem_cons.1 ho with ho | ho
      · rw [lget_lset, lget_lset, ← ho, hl]
        split
        · rfl
        · rename_i hn
          have hn : ¬ k < l'.length := fun hh => hn ⟨rfl, hh⟩
          rw [lget_eq, lget_eq, List.getElem?_eq_none (by omega), List.getElem?_eq_none (by omega)]
      · exact absurd ⟨ob, ho⟩ hr

def TE.slot (te : TE) (t : Nat) : Prop := t ∈ te.puts.map (·.1)
def TE.obj (te : TE) (k : Nat) : Prop := ∃ ob, (k, ob) ∈ te.wr
theorem app_len (te : TE) (s : DS) : (te.app s).loc.length = s.loc.length := lsets_len _ _
theorem app_slot_ne {te : TE} {s : DS} {t : Nat} (h : ¬ te.slot t) : look (te.app s).env t = look s.env t := look_notin h
theorem app_slot_eq {te : TE} {s s' : DS} {t : Nat} (h : te.slot t) : look (te.app s).env t = look (te.app s').env t := look_in h
theorem app_obj_ne {te : TE} {s : DS} {k : Nat} (h : ¬ te.obj k) : lget (te.app s).loc k = lget s.loc k := lsets_ne h
theorem app_obj_eq {te : TE} {s s' : DS} {k : Nat} (h : te.obj k) (hl : s.loc.length = s'.loc.length) : lget (te.app s).loc k = lget (te.app s').loc k := lsets_eq h hl
theorem app_congr {te : TE} {s s' : DS} (h1 : ∀ t, look s.env t = look s'.env t) (h2 : ∀ k, lget s.loc k = lget s'.loc k) (hl : s.loc.length = s'.loc.length) :
    (∀ t, look (te.app s).env t = look (te.app s').env t) ∧ ∀ k, lget (te.app s).loc k = lget (te.app s').loc k := by
  refine ⟨fun t => ?_, fun k => ?_⟩
  · by_cases h : te.slot t
    · exact app_slot_eq h
    · rw [app_slot_ne h, app_slot_ne h, h1]
  · by_cases h : te.obj k
    · exact app_obj_eq h hl
    · rw [app_obj_ne h, app_obj_ne h, h2]

def stN (tr : List TE) (s0 : DS) (S : Nat → Bool) : Nat → DS
  | 0 => s0
  | n + 1 => match tr[n]?, S n with
    | some te, true => te.app (stN tr s0 S n)
    | _, _ => stN tr s0 S n
section
variable {tr : List TE} {s0 : DS} {S S' : Nat → Bool}
theorem stN_len : ∀ n, (stN tr s0 S n).loc.length = s0.loc.length
  | 0 => rfl
  | n + 1 => by
    unfold stN
    split
    · rw [app_len, stN_len n]
    · exact stN_len n
theorem stN_slot {t : Nat} : ∀ n, (∀ j te, j < n → tr[j]? = some te → te.slot t → S j = S' j) → look (stN tr s0 S n).env t = look (stN tr s0 S' n).env t
  | 0, _ => rfl
  | n + 1, h => by
    have ih := stN_slot n (fun j te hj => h j te (by omega))
    cases htr : tr[n]? with
    | none => simp only [stN, htr]; exact ih
    | some te =>
      by_cases hs : te.slot t
      · have := h n te (by omega) htr hs
        cases hS' : S' n <;> simp only [stN, htr, this, hS']
        · exact ih
        · exact app_slot_eq hs
      · cases hS : S n <;> cases hS' : S' n <;> simp only [stN, htr, hS, hS']
        all_goals first | (rw [app_slot_ne hs, app_slot_ne hs]; exact ih) | (rw [app_slot_ne hs]; exact ih) | exact ih
theorem stN_obj {k : Nat} : ∀ n, (∀ j te, j < n → tr[j]? = some te → te.obj k → S j = S' j) → lget (stN tr s0 S n).loc k = lget (stN tr s0 S' n).loc k
  | 0, _ => rfl
  | n + 1, h => by
    have ih := stN_obj n (fun j te hj => h j te (by omega))
    cases htr : tr[n]? with
    | none => simp only [stN, htr]; exact ih
    | some te =>
      by_cases hs : te.obj k
      · have := h n te (by omega) htr hs
        cases hS' : S' n <;> simp only [stN, htr, this, hS']
        · exact ih
        · exact app_obj_eq hs (by rw [stN_len, stN_len])
      · cases hS : S n <;> cases hS' : S' n <;> simp only [stN, htr, hS, hS']
        all_goals first | (rw [app_obj_ne hs, app_obj_ne hs]; exact ih) | (rw [app_obj_ne hs]; exact ih) | exact ih
theorem stN_same : ∀ n, (∀ j, j < n → S j = S' j) → stN tr s0 S n = stN tr s0 S' n
  | 0, _ => rfl
  | n + 1, h => by
    have ih := stN_same n (fun j hj => h j (by omega))
    simp only [stN, h n (by omega), ih]
theorem stN_below {m : Nat} : ∀ n, m ≤ n → (∀ j, m ≤ j → j < n → S j = false) → stN tr s0 S n = stN tr s0 S m
  | 0, hm, h => by
    have : m = 0 := by omega
    subst this; rfl
  | n + 1, hm, h => by
    by_cases e : m = n + 1
    · subst e; rfl
    · have ih := stN_below n (by omega) (fun j h1 h2 => h j h1 (by omega))
      have := h n (by omega) (by omega)
      simp only [stN, this]
      split
      · rename_i h2; cases h2
      · exact ih

structure Ordered (tr : List TE) (looks : Nat → List Nat) (anc : Nat → Nat → Prop) : Prop where
  ps_ls : ∀ i j te t, i < j → tr[i]? = some te → te.slot t → t ∈ looks j → anc j i
  ls_ps : ∀ i j te t, i < j → tr[j]? = some te → te.slot t → t ∈ looks i → anc j i
  ps_ps : ∀ i j te te' t, i < j → tr[i]? = some te → tr[j]? = some te' → te.slot t → te'.slot t → anc j i
  wr_rd : ∀ i j te te' k, i < j → tr[i]? = some te → tr[j]? = some te' → te.obj k → (k ∈ te'.rd ∨ te'.obj k) → anc j i
  rd_wr : ∀ i j te te' k, i < j → tr[i]? = some te → tr[j]? = some te' → te'.obj k → k ∈ te.rd → anc j i

variable {looks : Nat → List Nat} {anc : Nat → Nat → Prop} {N i : Nat} {te : TE}
theorem find_slot (hO : Ordered tr looks anc) (hdc : ∀ i j, S i = true → anc i j → S j = true) (hi : S i = false) (hr : ∀ j, anc i j → S j = true) (hiN : i < N) {t : Nat} (ht : t ∈ looks i) :
    look (stN tr s0 S N).env t = look (stN tr s0 (fun _ => true) i).env t := by
  have h1 : look (stN tr s0 S N).env t = look (stN tr s0 (fun j => decide (j < i)) N).env t := by
    refine stN_slot N (fun j te hj htr hs => ?_)
    rcases Nat.lt_trichotomy j i with hlt | rfl | hgt
    · rw [hr j (hO.ps_ls j i te t hlt htr hs ht)]; simp [hlt]
    · rw [hi]; simp
    · have : anc j i := hO.ls_ps i j te t hgt htr hs ht
      cases hS : S j with
      | false => simp; omega
      | true => exact absurd (hdc j i hS this) (by simp [hi])
  rw [h1, stN_below N (m := i) (by omega) (fun j h1 h2 => by simp; omega), stN_same i (S' := fun _ => true) (fun j hj => by simp [hj])]
theorem find_obj (hO : Ordered tr looks anc) (hdc : ∀ i j, S i = true → anc i j → S j = true) (hi : S i = false) (hr : ∀ j, anc i j → S j = true) (hiN : i < N) (hte : tr[i]? = some te) {k : Nat} (hk : k ∈ te.rd ∨ te.obj k) :
    lget (stN tr s0 S N).loc k = lget (stN tr s0 (fun _ => true) i).loc k := by
  have h1 : lget (stN tr s0 S N).loc k = lget (stN tr s0 (fun j => decide (j < i)) N).loc k := by
    refine stN_obj N (fun j te' hj htr hs => ?_)
    rcases Nat.lt_trichotomy j i with hlt | rfl | hgt
    · rw [hr j (hO.wr_rd j i te' te k hlt htr hte hs hk)]; simp [hlt]
    · rw [hi]; simp
    · have : anc j i := by
        rcases hk with hk | hk
        · exact hO.rd_wr i j te te' k hgt hte htr hs hk
        · exact hO.wr_rd i j te te' k hgt hte htr hk (.inr hs)
      cases hS : S j with
      | false => simp; omega
      | true => exact absurd (hdc j i hS this) (by simp [hi])
  rw [h1, stN_below N (m := i) (by omega) (fun j h1 h2 => by simp; omega), stN_same i (S' := fun _ => true) (fun j hj => by simp [hj])]
theorem next_slot (hO : Ordered tr looks anc) (hdc : ∀ i j, S i = true → anc i j → S j = true) (hi : S i = false) (hiN : i < N) (hte : tr[i]? = some te) (t : Nat) :
    look (stN tr s0 (fun j => S j || decide (j = i)) N).env t = look (te.app (stN tr s0 S N)).env t := by
  by_cases hs : te.slot t
  · have h1 : look (stN tr s0 (fun j => S j || decide (j = i)) N).env t = look (stN tr s0 (fun j => (S j || decide (j = i)) && decide (j ≤ i)) N).env t := by
      refine stN_slot N (fun j te' hj htr hs' => ?_)
      by_cases hle : j ≤ i
      · simp [hle]
      · have : anc j i := hO.ps_ps i j te te' t (by omega) hte htr hs hs'
        cases hS : S j with
        | false => simp [hle]; omega
        | true => exact absurd (hdc j i hS this) (by simp [hi])
    rw [h1, stN_below N (m := i + 1) (by omega) (fun j h1 h2 => by simp; omega)]
    simp only [stN, hte, hi, Bool.false_or, decide_true, Bool.true_and, Nat.le_refl]
    exact app_slot_eq hs
  · rw [app_slot_ne hs]
    refine stN_slot N (fun j te' hj htr hs' => ?_)
    by_cases e : j = i
    · subst e; rw [hte] at htr; cases htr; exact absurd hs' hs
    · simp [e]
theorem next_obj (hO : Ordered tr looks anc) (hdc : ∀ i j, S i = true → anc i j → S j = true) (hi : S i = false) (hiN : i < N) (hte : tr[i]? = some te) (k : Nat) :
    lget (stN tr s0 (fun j => S j || decide (j = i)) N).loc k = lget (te.app (stN tr s0 S N)).loc k := by
  by_cases hs : te.obj k
  · have h1 : lget (stN tr s0 (fun j => S j || decide (j = i)) N).loc k = lget (stN tr s0 (fun j => (S j || decide (j = i)) && decide (j ≤ i)) N).loc k := by
      refine stN_obj N (fun j te' hj htr hs' => ?_)
      by_cases hle : j ≤ i
      · simp [hle]
      · have : anc j i := hO.wr_rd i j te te' k (by omega) hte htr hs (.inr hs')
        cases hS : S j with
        | false => simp [hle]; omega
        | true => exact absurd (hdc j i hS this) (by simp [hi])
    rw [h1, stN_below N (m := i + 1) (by omega) (fun j h1 h2 => by simp; omega)]
    simp only [stN, hte, hi, Bool.false_or, decide_true, Bool.true_and, Nat.le_refl]
    exact app_obj_eq hs (by rw [stN_len, stN_len])
  · rw [app_obj_ne hs]
    refine stN_obj N (fun j te' hj htr hs' => ?_)
    by_cases e : j = i
    · subst e; rw [hte] at htr; cases htr; exact absurd hs' hs
    · simp [e]
end

section
variable {ops : Array Oper}
inductive Reach (ops : Array Oper) : Nat → Nat → Prop
  | edge {i : Nat} {o : Oper} {e : Edge} (ho : ops[i]? = some o) (he : e ∈ o.after) (hb : Region.binds .any e = true) : Reach ops i e.on
  | trans {i j k : Nat} (h : Reach ops i j) (h' : Reach ops j k) : Reach ops i k
theorem mask_ok {acc : List Nat} : ∀ {l : List Edge} {m j : Nat}, Nat.testBit (maskOf acc l m) j = true → Nat.testBit m j = true ∨ ∃ e ∈ l, Region.binds .any e = true ∧ (e.on = j ∨ Nat.testBit (acc.getD e.on 0) j = true)
  | [], m, j, h => .inl h
  | e :: r, m, j, h => by
    unfold maskOf at h
    split at h
    · rename_i hb
      rcases mask_ok h with h | ⟨e', he', hb', hj⟩
      · have h : Nat.testBit (m ||| (2 ^ e.on ||| acc.getD e.on 0)) j = true := h
        rw [Nat.testBit_or, Nat.testBit_or, Nat.testBit_two_pow] at h
        simp only [Bool.or_eq_true, decide_eq_true_eq] at h
        rcases h with h | h | h
        · exact .inl h
        · exact .inr ⟨e, by simp, hb, .inl h⟩
        · exact .inr ⟨e, by simp, hb, .inr h⟩
      · exact .inr ⟨e', by simp [he'], hb', hj⟩
    · rcases mask_ok h with h | ⟨e', he', hb', hj⟩
      · exact .inl h
      · exact .inr ⟨e', by simp [he'], hb', hj⟩
def Good (ops : Array Oper) (acc : List Nat) : Prop := ∀ i j, Nat.testBit (acc.getD i 0) j = true → Reach ops i j
theorem masks_ok : ∀ {l : List Oper} {acc : List Nat}, ops.toList.drop acc.length = l → Good ops acc → Good ops (masks l acc)
  | [], acc, _, h => h
  | o :: r, acc, hl, h => by
    have ho : ops[acc.length]? = some o := by
      have : (ops.toList.drop acc.length)[0]? = some o := by rw [hl]; rfl
      simpa using this
    refine masks_ok (l := r) ?_ (fun i j hij => ?_)
    · rw [List.length_append, List.length_singleton, ← List.drop_drop, hl]; rfl
    · rcases Nat.lt_trichotomy i acc.length with hlt | rfl | hgt
      · rw [List.getD_eq_getElem?_getD, List.getElem?_append_left hlt, ← List.getD_eq_getElem?_getD] at hij
        exact h i j hij
      · have : (acc ++ [maskOf acc o.after.toList 0]).getD acc.length 0 = maskOf acc o.after.toList 0 := by simp
        rw [this] at hij
        rcases mask_ok hij with h0 | ⟨e, he, hb, hj⟩
        · simp at h0
        · have he' : e ∈ o.after := by simpa using he
          rcases hj with rfl | hj
          · exact .edge ho he' hb
          · exact .trans (.edge ho he' hb) (h _ _ hj)
      · have : (acc ++ [maskOf acc o.after.toList 0]).getD i 0 = 0 := by
          rw [List.getD_eq_getElem?_getD, List.getElem?_eq_none (by simp; omega)]; rfl
        rw [this] at hij
        simp at hij
theorem masks_len : ∀ {l : List Oper} {acc : List Nat}, (masks l acc).length = acc.length + l.length
  | [], acc => by simp [masks]
  | o :: r, acc => by rw [masks, masks_len]; simp; omega
theorem meets_of {l r : List Nat} {x : Nat} (h1 : x ∈ l) (h2 : x ∈ r) : meets l r = true := by
  simp only [meets, List.any_eq_true]
  exact ⟨x, h1, x, h2, by simp⟩
theorem rowOk_get {f : Foot} {i : Nat} : ∀ {fs : List Foot} {ms : List Nat} {j : Nat} {g : Foot} {m : Nat}, rowOk f i fs ms = true → fs[j]? = some g → ms[j]? = some m → clash f g = true → Nat.testBit m i = true
  | [], _, j, g, m, _, hg, _, _ => by simp at hg
  | _ :: _, [], j, g, m, _, _, hm, _ => by simp at hm
  | g' :: r, m' :: ms, 0, g, m, h, hg, hm, hc => by
    simp at hg hm
    subst hg; subst hm
    simp only [rowOk, Bool.and_eq_true, Bool.or_eq_true, Bool.not_eq_true'] at h
    rcases h.1 with h1 | h1
    · rw [hc] at h1; cases h1
    · exact h1
  | g' :: r, m' :: ms, j + 1, g, m, h, hg, hm, hc => by
    simp only [rowOk, Bool.and_eq_true] at h
    exact rowOk_get (j := j) h.2 (by simpa using hg) (by simpa using hm) hc
theorem pairsOk_get : ∀ {fs : List Foot} {ms : List Nat} {b i j : Nat} {f g : Foot} {m : Nat}, pairsOk b fs ms = true → i < j → fs[i]? = some f → fs[j]? = some g → ms[j]? = some m → clash f g = true → Nat.testBit m (b + i) = true
  | [], _, b, i, j, f, g, m, _, _, hf, _, _, _ => by simp at hf
  | _ :: _, [], b, i, j, f, g, m, _, _, _, _, hm, _ => by simp at hm
  | f' :: r, m' :: ms, b, 0, j + 1, f, g, m, h, hij, hf, hg, hm, hc => by
    simp at hf
    subst hf
    simp only [pairsOk, Bool.and_eq_true] at h
    exact rowOk_get (j := j) h.1 (by simpa using hg) (by simpa using hm) hc
  | f' :: r, m' :: ms, b, i + 1, j + 1, f, g, m, h, hij, hf, hg, hm, hc => by
    simp only [pairsOk, Bool.and_eq_true] at h
    have := pairsOk_get (i := i) (j := j) h.2 (by omega) (by simpa using hf) (by simpa using hg) (by simpa using hm) hc
    rwa [Nat.add_assoc, Nat.add_comm 1 i] at this
  | f' :: r, m' :: ms, b, i, 0, f, g, m, h, hij, hf, hg, hm, hc => by omega
theorem feet_get : ∀ {l : List Oper} {tr : List TE} {i : Nat} {o : Oper} {te : TE}, l[i]? = some o → tr[i]? = some te → (feet ops l tr)[i]? = some (footOf ops o te)
  | [], _, i, o, te, h, _ => by simp at h
  | _ :: _, [], i, o, te, _, h => by simp at h
  | o' :: r, te' :: tr, 0, o, te, h, h' => by simp at h h'; subst h; subst h'; rfl
  | o' :: r, te' :: tr, i + 1, o, te, h, h' => by
    simp only [feet, List.getElem?_cons_succ]
    exact feet_get (by simpa using h) (by simpa using h')
theorem edges_get : ∀ {l : List Oper} {b i : Nat} {o : Oper}, edgesDown l b = true → l[i]? = some o → ∀ e ∈ o.after, Region.binds .any e = true → e.on < b + i
  | [], b, i, o, _, h, _, _, _ => by simp at h
  | o' :: r, b, 0, o, hd, h, e, he, hb => by
    simp at h
    subst h
    simp only [edgesDown, Bool.and_eq_true, List.all_eq_true] at hd
    have := hd.1 e (by simpa using he)
    rw [hb] at this
    have this : e.on < b := by simpa using this
    omega
  | o' :: r, b, i + 1, o, hd, h, e, he, hb => by
    simp only [edgesDown, Bool.and_eq_true] at hd
    have := edges_get (i := i) hd.2 (by simpa using h) e he hb
    omega

def looksOf (ops : Array Oper) (i : Nat) : List Nat :=
  match ops[i]? with
  | some o => o.looksAt ops
  | none => []
theorem ordered_of {tr : List TE} (hl : tr.length = ops.size) (h : regOk ops tr = true) : Ordered tr (looksOf ops) (Reach ops) := by
  simp only [regOk, Bool.and_eq_true] at h
  have hgood : Good ops (masks ops.toList []) := masks_ok (by simp) (fun i j hij => by simp at hij)
  have key : ∀ i j te te' o o', i < j → tr[i]? = some te → tr[j]? = some te' → ops[i]? = some o → ops[j]? = some o' → clash (footOf ops o te) (footOf ops o' te') = true → Reach ops j i := by
    intro i j te te' o o' hij h1 h2 h3 h4 hc
    have hj : j < (masks ops.toList []).length := by
      rw [masks_len]
      have := (Array.getElem?_eq_some_iff.1 h4).1
      simpa using this
    have := pairsOk_get h.2 hij (feet_get (by simpa using h3) h1) (feet_get (by simpa using h4) h2) (List.getElem?_eq_getElem hj) hc
    rw [Nat.zero_add] at this
    refine hgood j i ?_
    rwa [List.getD_eq_getElem?_getD, List.getElem?_eq_getElem hj]
  have getop : ∀ {i : Nat} {te : TE}, tr[i]? = some te → ∃ o, ops[i]? = some o := by
    intro i te hi
    have := (List.getElem?_eq_some_iff.1 hi).1
    exact ⟨ops[i], Array.getElem?_eq_getElem (by omega)⟩
  have looks : ∀ {i t : Nat}, t ∈ looksOf ops i → ∃ o te, ops[i]? = some o ∧ tr[i]? = some te ∧ t ∈ o.looksAt ops := by
    intro i t ht
    unfold looksOf at ht
    split at ht
    · rename_i o ho
      have := (Array.getElem?_eq_some_iff.1 ho).1
      exact ⟨o, tr[i]'(by omega), ho, List.getElem?_eq_getElem (by omega), ht⟩
    · simp at ht
  have wrIn : ∀ {te : TE} {o : Oper} {k : Nat}, te.obj k → k ∈ (footOf ops o te).wr := by
    rintro te o k ⟨ob, h⟩
    exact List.mem_map.2 ⟨_, h, rfl⟩
  refine ⟨fun i j te t hij h1 hs ht => ?_, fun i j te t hij h1 hs ht => ?_, fun i j te te' t hij h1 h2 hs hs' => ?_, fun i j te te' k hij h1 h2 hk hk' => ?_, fun i j te te' k hij h1 h2 hk hk' => ?_⟩
  · obtain ⟨o', te', ho', hte', ht⟩ := looks ht
    obtain ⟨o, ho⟩ := getop h1
    refine key i j te te' o o' hij h1 hte' ho ho' ?_
    simp only [clash, Bool.or_eq_true]
    exact .inl (.inl (.inl (meets_of (l := (footOf ops o te).ps) hs (by simp [footOf, ht]))))
  · obtain ⟨o, te', ho, hte', ht⟩ := looks ht
    obtain ⟨o', ho'⟩ := getop h1
    refine key i j te' te o o' hij hte' h1 ho ho' ?_
    simp only [clash, Bool.or_eq_true]
    exact .inl (.inl (.inr (meets_of (l := (footOf ops o te').ls) ht hs)))
  · obtain ⟨o, ho⟩ := getop h1
    obtain ⟨o', ho'⟩ := getop h2
    refine key i j te te' o o' hij h1 h2 ho ho' ?_
    simp only [clash, Bool.or_eq_true]
    exact .inl (.inl (.inl (meets_of (l := (footOf ops o te).ps) hs (List.mem_append.2 (.inr hs')))))
  · obtain ⟨o, ho⟩ := getop h1
    obtain ⟨o', ho'⟩ := getop h2
    refine key i j te te' o o' hij h1 h2 ho ho' ?_
    simp only [clash, Bool.or_eq_true]
    refine .inl (.inr (meets_of (x := k) (wrIn hk) (List.mem_append.2 ?_)))
    rcases hk' with hk' | hk'
    · exact .inl hk'
    · exact .inr (wrIn hk')
  · obtain ⟨o, ho⟩ := getop h1
    obtain ⟨o', ho'⟩ := getop h2
    refine key i j te te' o o' hij h1 h2 ho ho' ?_
    simp only [clash, Bool.or_eq_true]
    exact .inr (meets_of (l := (footOf ops o te).rd) hk' (wrIn hk))
end
end Go.Lift

namespace Go.Lift
open Go

def Gen (F : (Option Prop → DV → Prop) → Prop) : Prop := ∀ Q, F Q → ∃ c d, Q c d ∧ ∀ Q', Q' c d → F Q'
section
variable {P : Program} {tt : TT} {s : DS} {ρ : Operand → DV} {loc : List LObj}

theorem gen_ret (c : Option Prop) (d : DV) : Gen (fun Q => Q c d) := fun Q h => ⟨c, d, h, fun _ h' => h'⟩
theorem gen_no : Gen (fun _ => False) := fun Q h => h.elim
theorem gen_ex {α : Type} {F : α → (Option Prop → DV → Prop) → Prop} (h : ∀ k, Gen (F k)) : Gen (fun Q => ∃ k, F k Q) := fun Q ⟨k, hk⟩ => by
  obtain ⟨c, d, h1, h2⟩ := h k Q hk
  exact ⟨c, d, h1, fun Q' h' => ⟨k, h2 Q' h'⟩⟩
theorem gen_frc {F : DV → (Option Prop → DV → Prop) → Prop} {d : DV} (h : Gen (F d)) : Gen (fun Q => frc d fun d => F d Q) := by cases d <;> exact h
theorem gen_takeK : ∀ {n : Nat} {l : List DV} {F : List DV → (Option Prop → DV → Prop) → Prop}, (∀ l, Gen (F l)) → Gen (fun Q => takeK n l fun l => F l Q)
  | 0, l, F, h => h []
  | n + 1, [], F, h => gen_no
  | n + 1, d :: r, F, h => gen_frc (F := fun d Q => takeK n r fun l => F (d :: l) Q) (gen_takeK (F := fun l Q => F (d :: l) Q) (fun l => h (d :: l)))
theorem gen_dropK : ∀ {n : Nat} {l : List DV} {F : List DV → (Option Prop → DV → Prop) → Prop}, (∀ l, Gen (F l)) → Gen (fun Q => dropK n l fun l => F l Q)
  | 0, l, F, h => h l
  | n + 1, [], F, h => gen_no
  | n + 1, d :: r, F, h => gen_dropK (l := r) h
theorem gen_take {agg : Bool} {size : Nat} {l : List DV} {F : DV → (Option Prop → DV → Prop) → Prop} (h : ∀ d, Gen (F d)) : Gen (fun Q => dTake agg size l fun d => F d Q) := by
  cases agg
  · cases l
    · exact gen_no
    · exact gen_frc (h _)
  · exact gen_takeK (F := fun l Q => F (.agg l) Q) (fun l => h _)
theorem gen_buildK {place : Nat → Nat × Nat} {F : List DV → (Option Prop → DV → Prop) → Prop} (h : ∀ l, Gen (F l)) : ∀ {parts : List (Nat × Operand)} {cs : List DV}, Gen (fun Q => buildK ρ place parts cs fun l => F l Q)
  | [], cs => h cs
  | (i, x) :: r, cs => by
    refine gen_frc (F := fun d Q => match d with
      | .wh _ _ => False
      | .tup _ => False
      | .junk => False
      | d => match Nat.beq (dcells d).length (place i).2 && Nat.ble ((place i).1 + (dcells d).length) cs.length && Nat.blt 0 (place i).2 with
        | true => forceC (dsplice cs (place i).1 (dcells d)) fun cs' => buildK ρ place r cs' fun l => F l Q
        | false => False) ?_
    have key : ∀ d, Gen (fun Q => match Nat.beq (dcells d).length (place i).2 && Nat.ble ((place i).1 + (dcells d).length) cs.length && Nat.blt 0 (place i).2 with
        | true => forceC (dsplice cs (place i).1 (dcells d)) fun cs' => buildK ρ place r cs' fun l => F l Q
        | false => False) := by
      intro d
      generalize (Nat.beq (dcells d).length (place i).2 && Nat.ble ((place i).1 + (dcells d).length) cs.length && Nat.blt 0 (place i).2) = b
      cases b
      · exact gen_no
      · have e : (fun Q => forceC (dsplice cs (place i).1 (dcells d)) fun cs' => buildK ρ place r cs' fun l => F l Q) = fun Q => buildK ρ place r (dsplice cs (place i).1 (dcells d)) fun l => F l Q := funext fun Q => propext forceC_iff
        show Gen (fun Q => forceC (dsplice cs (place i).1 (dcells d)) fun cs' => buildK ρ place r cs' fun l => F l Q)
        rw [e]
        exact gen_buildK h
    generalize ρ x = d
    cases d <;> first | exact gen_no | exact key _
theorem gen_evL {F : List DV → (Option Prop → DV → Prop) → Prop} : ∀ {l : List Operand} {F : List DV → (Option Prop → DV → Prop) → Prop}, (∀ l, Gen (F l)) → Gen (fun Q => evL ρ l fun l => F l Q)
  | [], F, h => h []
  | x :: r, F, h => gen_frc (F := fun d Q => evL ρ r fun l => F (d :: l) Q) (gen_evL (F := fun l Q => F (ρ x :: l) Q) (fun l => h _))
theorem gen_obl {b : Bool} {d : DV} {F : Option Prop → DV → (Option Prop → DV → Prop) → Prop} (h : ∀ c d, Gen (F c d)) : Gen (fun Q => obl b d fun c d => F c d Q) := by
  cases d <;> exact h _ _
theorem gen_dpickV {c ka kb : Bool} {x y : DV} {F : DV → (Option Prop → DV → Prop) → Prop} (h : ∀ d, Gen (F d)) : Gen (fun Q => dpickV c x y ka kb fun d => F d Q) := by
  cases x
  case v x =>
    cases x
    case bool p =>
      cases y
      case v y =>
        cases y
        case bool q => cases ka <;> cases kb <;> exact h _
        all_goals exact gen_no
      all_goals exact gen_no
    all_goals exact gen_no
  all_goals exact gen_no
theorem gen_pick {c a b : Operand} : Gen (dPick ρ c a b) := by
  unfold dPick
  generalize ρ c = x
  cases x
  case v x =>
    cases x
    case bool t =>
      exact gen_obl (F := fun c1 x Q => obl (!t) (ρ b) fun c2 y => frc x fun x => frc y fun y => dpickV t x y (isConstTrue a) (isConstFalse b) fun d => Q (andO c1 c2) d)
        (fun c1 x => gen_obl (F := fun c2 y Q => frc x fun x => frc y fun y => dpickV t x y (isConstTrue a) (isConstFalse b) fun d => Q (andO c1 c2) d)
        (fun c2 y => gen_frc (F := fun x Q => frc y fun y => dpickV t x y (isConstTrue a) (isConstFalse b) fun d => Q (andO c1 c2) d)
        (gen_frc (F := fun y Q => dpickV t x y (isConstTrue a) (isConstFalse b) fun d => Q (andO c1 c2) d) (gen_dpickV (F := fun d Q => Q (andO c1 c2) d) (fun d => gen_ret _ _)))))
    all_goals exact gen_no
  all_goals exact gen_no
theorem gen_eqCells {F : Bool → (Option Prop → DV → Prop) → Prop} : ∀ {ks : List SK} {xs ys : List DV} {F : Bool → (Option Prop → DV → Prop) → Prop}, (∀ b, Gen (F b)) → Gen (fun Q => eqCells ks xs ys fun b => F b Q)
  | [], [], [], F, h => h true
  | k :: ks, x :: r, y :: r', F, h => by
    have ih : ∀ e, Gen (fun Q => eqCells ks r r' fun z => F (e && z) Q) := fun e => gen_eqCells (F := fun z Q => F (e && z) Q) (fun z => h _)
    show Gen (fun Q => eq1K k x y fun e => eqCells ks r r' fun z => F (e && z) Q)
    unfold eq1K
    cases k <;> cases x
    all_goals first | exact gen_no | skip
    all_goals rename_i p
    all_goals cases p
    all_goals first | exact gen_no | skip
    all_goals cases y
    all_goals first | exact gen_no | skip
    all_goals rename_i q
    all_goals cases q
    all_goals first | exact gen_no | exact ih _ | skip
    rename_i k k1 a k2 b
    show Gen (fun Q => match ikEq k k1 && ikEq k k2 with
      | true => eqCells ks r r' fun z => F (decide (a = b) && z) Q
      | false => False)
    generalize (ikEq k k1 && ikEq k k2) = e
    cases e
    · exact gen_no
    · exact ih _
  | [], [], _ :: _, F, h => gen_no
  | [], _ :: _, [], F, h => gen_no
  | [], _ :: _, _ :: _, F, h => gen_no
  | _ :: _, [], [], F, h => gen_no
  | _ :: _, [], _ :: _, F, h => gen_no
  | _ :: _, _ :: _, [], F, h => gen_no
theorem gen_bin {t : TypeId} {op : BinOp} {x y : DV} : Gen (dbin tt t op x y) := by
  unfold dbin
  cases x
  case v x =>
    cases x
    case int k a =>
      cases y
      case v y =>
        cases y
        case int k' b =>
          show Gen (fun Q => match isShift op with
            | true => dShift op k a b Q
            | false => match ikEq k k' with
              | true => dInt op k a b Q
              | false => False)
          cases op
          all_goals first | exact gen_ret _ _ | skip
          all_goals generalize ikEq k k' = e
          all_goals cases e
          all_goals first | exact gen_no | exact gen_ret _ _
        all_goals exact gen_no
      all_goals exact gen_no
    case string a =>
      cases y
      case v y =>
        cases y
        case string b =>
          cases op
          all_goals first | exact gen_ret _ _ | exact gen_no
        all_goals exact gen_no
      all_goals exact gen_no
    case bool a =>
      cases y
      case v y =>
        cases y
        case bool b =>
          show Gen (fun Q => match (tinfo tt t).k with
            | .bool => dBool op a b Q
            | _ => False)
          generalize (tinfo tt t).k = k
          cases k
          case bool => cases op <;> first | exact gen_ret _ _ | exact gen_no
          all_goals exact gen_no
        all_goals exact gen_no
      all_goals exact gen_no
    all_goals exact gen_no
  case agg a =>
    cases y
    case agg b =>
      show Gen (fun Q => dAgg tt t op a b Q)
      unfold dAgg
      generalize flatK tt 5 t = f
      generalize (tinfo tt t).agg = g
      cases f
      · exact gen_no
      · cases g
        · exact gen_no
        · cases op
          case eql => exact gen_eqCells (F := fun r Q => Q none (.v (.bool r))) (fun _ => gen_ret _ _)
          case neq => exact gen_eqCells (F := fun r Q => Q none (.v (.bool (!r)))) (fun _ => gen_ret _ _)
          all_goals exact gen_no
    all_goals exact gen_no
  all_goals exact gen_no
theorem gen_convert {ks k : TK} {d : DV} : Gen (dConvert tt ks k d) := by
  unfold dConvert
  cases ks
  case int =>
    cases k
    case int =>
      cases d
      case v x => cases x <;> first | exact gen_ret _ _ | exact gen_no
      all_goals exact gen_no
    all_goals exact gen_no
  case str =>
    cases k
    case str =>
      cases d
      case v x => cases x <;> first | exact gen_ret _ _ | exact gen_no
      all_goals exact gen_no
    all_goals exact gen_no
  case slc e =>
    cases k
    case str =>
      cases d
      case lst sz es f =>
        show Gen (fun Q => match (tinfo tt e).k, Nat.beq sz 1 with
          | .int .u8, true => ∃ bs : List UInt8, Q (some (es = bs.map byteE)) (.v (.string ⟨bs.toArray⟩))
          | _, _ => False)
        generalize (tinfo tt e).k = k
        generalize Nat.beq sz 1 = b
        cases k
        case int k =>
          cases k
          case u8 =>
            cases b
            · exact gen_no
            · exact gen_ex (fun _ => gen_ret _ _)
          all_goals exact gen_no
        all_goals exact gen_no
      all_goals exact gen_no
    all_goals exact gen_no
  all_goals exact gen_no
theorem gen_fieldAddr {t : TypeId} {f : Nat} {d : DV} : Gen (dFieldAddr tt loc t f d) := by
  unfold dFieldAddr
  generalize (tinfo tt t).k = k
  cases k
  case st fs =>
    show Gen (fun Q => match (tinfo tt (fieldOf fs f).1).size with
      | 0 => False
      | _ => match d with
        | .lp i o => Q none (.lp i (o + (fieldOf fs f).2))
        | .ap i o => Q none (.ap i (o + (fieldOf fs f).2))
        | .rp i k o => match isRow (lget loc i) with
          | true => Q none (.rp i k (o + (fieldOf fs f).2))
          | false => False
        | .ip cs => dropK (fieldOf fs f).2 cs fun l => Q none (.ip l)
        | _ => False)
    generalize (tinfo tt (fieldOf fs f).1).size = z
    cases z
    · exact gen_no
    · cases d
      case ip cs => exact gen_dropK (F := fun l Q => Q none (.ip l)) (fun l => gen_ret _ _)
      case rp i k o =>
        show Gen (fun Q => match isRow (lget loc i) with
          | true => Q none (.rp i k (o + (fieldOf fs f).2))
          | false => False)
        generalize isRow (lget loc i) = b
        cases b
        · exact gen_no
        · exact gen_ret _ _
      all_goals first | exact gen_ret _ _ | exact gen_no
  all_goals exact gen_no
theorem gen_field {t : TypeId} {f : Nat} {d : DV} : Gen (dField tt t f d) := by
  unfold dField
  generalize (tinfo tt t).k = k
  cases k
  case st fs =>
    show Gen (fun Q => match (tinfo tt (fieldOf fs f).1).size with
      | 0 => False
      | _ => match d with
        | .agg cs => dropK (fieldOf fs f).2 cs fun l => dTake (tinfo tt (fieldOf fs f).1).agg (tinfo tt (fieldOf fs f).1).size l fun d => Q none d
        | _ => False)
    generalize (tinfo tt (fieldOf fs f).1).size = z
    cases z
    · exact gen_no
    · cases d
      case agg cs => exact gen_dropK (F := fun l Q => dTake _ _ l fun d => Q none d) (fun l => gen_take (F := fun d Q => Q none d) (fun d => gen_ret _ _))
      all_goals exact gen_no
  all_goals exact gen_no
theorem gen_indexSlc {size : Nat} {ix : Int} {d : DV} : Gen (dIndexSlc loc size ix d) := by
  unfold dIndexSlc
  cases d
  case lst sz es f =>
    show Gen (fun Q => match Nat.beq sz size with
      | true => ∃ (k : Nat) (ed : List DV), Q (some (ix = k ∧ es[k]? = some ed)) (.ip ed)
      | false => False)
    generalize Nat.beq sz size = b
    cases b
    · exact gen_no
    · exact gen_ex (fun k => gen_ex (fun ed => gen_ret _ _))
  case own j =>
    show Gen (fun Q => match lget loc j with
      | .row _ sz es => match Nat.beq sz size with
        | true => ∃ k : Nat, Q (some (ix = k ∧ k < es.length)) (.rp j k 0)
        | false => False
      | _ => False)
    generalize lget loc j = ob
    cases ob
    case row e sz es =>
      show Gen (fun Q => match Nat.beq sz size with
        | true => ∃ k : Nat, Q (some (ix = k ∧ k < es.length)) (.rp j k 0)
        | false => False)
      generalize Nat.beq sz size = b
      cases b
      · exact gen_no
      · exact gen_ex (fun k => gen_ret _ _)
    all_goals exact gen_no
  all_goals exact gen_no
theorem gen_indexArr {n size : Nat} {lit : Option Nat} {ix : Int} {d : DV} : Gen (dIndexArr n size lit ix d) := by
  unfold dIndexArr
  cases lit
  · cases d
    case lp => exact gen_ex (fun k => gen_ret _ _)
    case ap => exact gen_ex (fun k => gen_ret _ _)
    all_goals exact gen_no
  · cases d <;> first | exact gen_ret _ _ | exact gen_no
theorem gen_indexAddr {t : TypeId} {i : Operand} {x y : DV} : Gen (dIndexAddr tt loc t i x y) := by
  unfold dIndexAddr
  generalize (tinfo tt t).k = k
  cases k
  case slc e =>
    cases y
    case v y =>
      cases y
      case int ik ix =>
        show Gen (fun Q => match (tinfo tt e).size with
          | 0 => False
          | _ => dIndexSlc loc (tinfo tt e).size ix x Q)
        generalize (tinfo tt e).size = z
        cases z
        · exact gen_no
        · exact gen_indexSlc
      all_goals exact gen_no
    all_goals exact gen_no
  case arr n e =>
    cases y
    case v y =>
      cases y
      case int ik ix =>
        show Gen (fun Q => match (tinfo tt e).size with
          | 0 => False
          | _ => dIndexArr n (tinfo tt e).size (natLit i) ix x Q)
        generalize (tinfo tt e).size = z
        cases z
        · exact gen_no
        · exact gen_indexArr
      all_goals exact gen_no
    all_goals exact gen_no
  all_goals exact gen_no
theorem gen_index {t : TypeId} {x y : DV} : Gen (dIndex tt t x y) := by
  unfold dIndex
  cases y
  case v y =>
    cases y
    case int ik ix =>
      show Gen (fun Q => match (tinfo tt t).k, x with
        | .str, .v (.string s) => ∃ k : Nat, Q (some (ix = k ∧ k < s.size)) (.v (.int .u8 (s.data.getD k 0).toNat))
        | .arr n e, .agg cs => match (tinfo tt e).agg, Nat.beq (tinfo tt e).size 1 with
          | false, true => ∃ (k : Nat) (d : DV), frc d fun d => Q (some (ix = k ∧ k < n ∧ cs[k]? = some d)) d
          | _, _ => False
        | _, _ => False)
      generalize (tinfo tt t).k = k
      cases k
      case str =>
        cases x
        case v x => cases x <;> first | exact gen_ex (fun k => gen_ret _ _) | exact gen_no
        all_goals exact gen_no
      case arr n e =>
        cases x
        case agg cs =>
          show Gen (fun Q => match (tinfo tt e).agg, Nat.beq (tinfo tt e).size 1 with
            | false, true => ∃ (k : Nat) (d : DV), frc d fun d => Q (some (ix = k ∧ k < n ∧ cs[k]? = some d)) d
            | _, _ => False)
          generalize (tinfo tt e).agg = g
          generalize Nat.beq (tinfo tt e).size 1 = b
          cases g
          · cases b
            · exact gen_no
            · exact gen_ex (fun k => gen_ex (fun d => gen_frc (F := fun d Q => Q (some (ix = k ∧ k < n ∧ cs[k]? = some d)) d) (gen_ret _ _)))
          · exact gen_no
        all_goals exact gen_no
      all_goals exact gen_no
    all_goals exact gen_no
  all_goals exact gen_no
theorem gen_load {t : TypeId} {d : DV} : Gen (dLoad tt loc t d) := by
  unfold dLoad
  generalize (tinfo tt t).size = z
  generalize (tinfo tt t).agg = g
  cases z
  · exact gen_no
  · cases d
    case ip cs => exact gen_take (F := fun d Q => Q none d) (fun d => gen_ret _ _)
    case lp i o =>
      show Gen (fun Q => match lget loc i with
        | .cells _ cs => dropK o cs fun l => dTake g _ l fun d => Q none d
        | _ => False)
      generalize lget loc i = ob
      cases ob
      case cells t' cs => exact gen_dropK (F := fun l Q => dTake _ _ l fun d => Q none d) (fun l => gen_take (F := fun d Q => Q none d) (fun d => gen_ret _ _))
      all_goals exact gen_no
    case ap i o =>
      rename_i z
      show Gen (fun Q => match lget loc i with
        | .cells _ cs => match g with
          | true => ∃ ds : List DV, Q (some ((cs.drop o).take (z + 1) = ds ∧ ds.length = z + 1)) (.agg ds)
          | false => ∃ d : DV, frc d fun d => Q (some (cs[o]? = some d)) d
        | _ => False)
      generalize lget loc i = ob
      cases ob
      case cells t' cs =>
        cases g
        · exact gen_ex (fun d => gen_frc (F := fun d Q => Q (some (cs[o]? = some d)) d) (gen_ret _ _))
        · exact gen_ex (fun d => gen_ret _ _)
      all_goals exact gen_no
    case rp i k o =>
      rename_i z
      show Gen (fun Q => match lget loc i with
        | .row _ _ es => ∃ ed : List DV, dropK o ed fun l => dTake g (z + 1) l fun d => Q (some (es[k]? = some ed)) d
        | _ => False)
      generalize lget loc i = ob
      cases ob
      case row e sz es =>
        exact gen_ex (fun ed => gen_dropK (F := fun l Q => dTake g (z + 1) l fun d => Q (some (es[k]? = some ed)) d) (fun l => gen_take (F := fun d Q => Q (some (es[k]? = some ed)) d) (fun d => gen_ret _ _)))
      all_goals exact gen_no
    all_goals exact gen_no
theorem gen_extract {n : Nat} {d : DV} : Gen (dExtract n d) := by
  unfold dExtract
  cases d
  case tup ds =>
    refine gen_dropK (F := fun l Q => match l with
      | d :: _ => frc d fun d => Q none d
      | [] => False) (fun l => ?_)
    cases l
    · exact gen_no
    · exact gen_frc (F := fun d Q => Q none d) (gen_ret _ _)
  all_goals exact gen_no
theorem gen_slice {t : TypeId} {d : DV} {lo hi mx : Option Operand} : Gen (dSlice tt t ρ d lo hi mx) := by
  unfold dSlice
  generalize (tinfo tt t).k = k
  cases k
  case str =>
    cases d
    case v x =>
      cases x
      case string s =>
        cases mx
        · exact gen_ex (fun l => gen_ex (fun h => gen_ret _ _))
        · exact gen_no
      all_goals exact gen_no
    all_goals exact gen_no
  case slc e =>
    cases d
    case nl =>
      show Gen (fun Q => match (tinfo tt e).size, mx with
        | 0, _ => False
        | _, some _ => False
        | _, none => Q (some (bndIs ρ lo 0 0 ∧ bndIs ρ hi 0 0)) .nl)
      generalize (tinfo tt e).size = z
      cases z <;> cases mx <;> first | exact gen_no | exact gen_ret _ _
    case lst sz es full =>
      show Gen (fun Q => match (tinfo tt e).size, Nat.beq sz (tinfo tt e).size with
        | 0, _ => False
        | _, false => False
        | _, true => match hi, mx with
          | none, none => ∃ l : Nat, Q (some (bndIs ρ lo l 0 ∧ l ≤ es.length)) (.lst sz (es.drop l) full)
          | some ho, none => ∃ l h : Nat, Q (some (bndIs ρ lo l 0 ∧ bndIs ρ (some ho) h 0 ∧ l ≤ h ∧ h ≤ es.length)) (.lst sz ((es.take h).drop l) false)
          | some ho, some mo => ∃ l h : Nat, Q (some (bndIs ρ lo l 0 ∧ bndIs ρ (some ho) h 0 ∧ bndIs ρ (some mo) h 0 ∧ l ≤ h ∧ h ≤ es.length)) (.lst sz ((es.take h).drop l) true)
          | none, some _ => False)
      generalize Nat.beq sz (tinfo tt e).size = b
      generalize (tinfo tt e).size = z
      cases z
      · exact gen_no
      · cases b
        · exact gen_no
        · cases hi <;> cases mx
          · exact gen_ex (fun l => gen_ret _ _)
          · exact gen_no
          · exact gen_ex (fun l => gen_ex (fun h => gen_ret _ _))
          · exact gen_ex (fun l => gen_ex (fun h => gen_ret _ _))
    all_goals exact gen_no
  all_goals exact gen_no
theorem gen_build {t : TypeId} {parts : List (Nat × Operand)} : Gen (dBuild tt t ρ parts) := by
  unfold dBuild
  generalize (tinfo tt t).k = k
  generalize (tinfo tt t).zero = z0
  generalize (tinfo tt t).size = z
  cases k
  case st fs =>
    show Gen (fun Q => match allIn tt fs, z with
      | true, _ + 1 => buildK ρ _ parts z0 fun l => Q none (.agg l)
      | _, _ => False)
    generalize allIn tt fs = b
    cases b
    · exact gen_no
    · cases z
      · exact gen_no
      · exact gen_buildK (F := fun l Q => Q none (.agg l)) (fun l => gen_ret _ _)
  case arr n e =>
    show Gen (fun Q => match (tinfo tt e).size, z with
      | _ + 1, _ + 1 => buildK ρ (fun i => (i * (tinfo tt e).size, (tinfo tt e).size)) parts z0 fun l => Q none (.agg l)
      | _, _ => False)
    generalize (tinfo tt e).size = y
    cases y
    · exact gen_no
    · cases z
      · exact gen_no
      · exact gen_buildK (F := fun l Q => Q none (.agg l)) (fun l => gen_ret _ _)
  all_goals exact gen_no
theorem gen_dval {op : Op} : Gen (dval tt loc op ρ) := by
  cases op
  case move x => exact gen_frc (F := fun d Q => Q none d) (gen_ret _ _)
  case assign x => exact gen_frc (F := fun d Q => Q none d) (gen_ret _ _)
  case pick => exact gen_pick
  case nilCheck x =>
    show Gen (fun Q => dNilCheck loc (ρ x) Q)
    generalize ρ x = d
    unfold dNilCheck
    cases d
    case fn f c => cases f <;> first | exact gen_ret _ _ | exact gen_no
    case rp i k o =>
      show Gen (fun Q => match isRow (lget loc i) with
        | true => Q none (.rp i k o)
        | false => False)
      generalize isRow (lget loc i) = b
      cases b
      · exact gen_no
      · exact gen_ret _ _
    all_goals first | exact gen_ret _ _ | exact gen_no
  case binOp => exact gen_bin
  case unOp op t x =>
    show Gen (fun Q => dUn op (ρ x) Q)
    generalize ρ x = d
    unfold dUn
    cases op <;> cases d
    all_goals first | exact gen_no | skip
    all_goals rename_i y
    all_goals cases y
    all_goals first | exact gen_ret _ _ | exact gen_no
  case convert => exact gen_convert
  case fieldAddr => exact gen_fieldAddr
  case field => exact gen_field
  case indexAddr => exact gen_indexAddr
  case index => exact gen_index
  case load => exact gen_load
  case extract => exact gen_extract
  case slice => exact gen_slice
  case makeFunc f first caps =>
    show Gen (fun Q => match first.toList with
      | [] => evL ρ caps.toList fun l => match l.all isCap with
        | true => Q none (.fn f l)
        | false => False
      | _ => False)
    generalize first.toList = l
    cases l
    · refine gen_evL (F := fun l Q => match l.all isCap with
        | true => Q none (.fn f l)
        | false => False) (fun l => ?_)
      generalize l.all isCap = b
      cases b <;> first | exact gen_ret _ _ | exact gen_no
    · exact gen_no
  case build => exact gen_build
  case call c =>
    obtain ⟨callee, args, ats⟩ := c
    cases callee
    case builtin b =>
      cases b
      case len =>
        show Gen (fun Q => match args.toList, ats.toList with
          | [x], [t] => dLen tt loc t (ρ x) Q
          | _, _ => False)
        generalize args.toList = l
        generalize ats.toList = l'
        cases l with
        | nil => exact gen_no
        | cons x r =>
          cases r with
          | cons _ _ => exact gen_no
          | nil =>
            cases l' with
            | nil => exact gen_no
            | cons t r' =>
              cases r' with
              | cons _ _ => exact gen_no
              | nil =>
                show Gen (fun Q => dLen tt loc t (ρ x) Q)
                generalize ρ x = d
                unfold dLen
                generalize (tinfo tt t).k = k
                cases k
                case slc e =>
                  cases d
                  case own j =>
                    show Gen (fun Q => match lget loc j with
                      | .row _ _ es => Q none (.v (.int .i64 es.length))
                      | _ => False)
                    generalize lget loc j = ob
                    cases ob <;> first | exact gen_ret _ _ | exact gen_no
                  all_goals first | exact gen_ret _ _ | exact gen_no
                case str =>
                  cases d
                  case v x => cases x <;> first | exact gen_ret _ _ | exact gen_no
                  all_goals exact gen_no
                all_goals first | exact gen_ret _ _ | exact gen_no
      case min =>
        show Gen (fun Q => match args.toList with
          | [x, y] => dMin (ρ x) (ρ y) Q
          | _ => False)
        generalize args.toList = l
        rcases l with _ | ⟨x, _ | ⟨y, _ | _⟩⟩
        · exact gen_no
        · exact gen_no
        · show Gen (fun Q => dMin (ρ x) (ρ y) Q)
          generalize ρ x = d
          generalize ρ y = e
          unfold dMin
          cases d
          case v d =>
            cases d
            case int =>
              cases e
              case v e => cases e <;> first | exact gen_ret _ _ | exact gen_no
              all_goals exact gen_no
            all_goals exact gen_no
          all_goals exact gen_no
        · exact gen_no
      case max =>
        show Gen (fun Q => match args.toList with
          | [x, y] => dMax (ρ x) (ρ y) Q
          | _ => False)
        generalize args.toList = l
        rcases l with _ | ⟨x, _ | ⟨y, _ | _⟩⟩
        · exact gen_no
        · exact gen_no
        · show Gen (fun Q => dMax (ρ x) (ρ y) Q)
          generalize ρ x = d
          generalize ρ y = e
          unfold dMax
          cases d
          case v d =>
            cases d
            case int =>
              cases e
              case v e => cases e <;> first | exact gen_ret _ _ | exact gen_no
              all_goals exact gen_no
            all_goals exact gen_no
          all_goals exact gen_no
        · exact gen_no
      all_goals exact gen_no
    all_goals exact gen_no
  all_goals exact gen_no
theorem gen_dgPick {g : Bool} {c a b : Operand} : Gen (dgPick s g c a b) := by
  have gob : ∀ {l : List Operand} {F : Option Prop → (Option Prop → DV → Prop) → Prop}, (∀ c, Gen (F c)) → Gen (fun Q => oblAll g s l fun c => F c Q) := by
    intro l
    induction l with
    | nil => intro F h; exact h _
    | cons x r ih =>
      intro F h
      show Gen (fun Q => match ev s x with
        | .wh g' _ => oblAll g s r fun c => F (andO (some (g = true → g' = true)) c) Q
        | _ => oblAll g s r fun c => F c Q)
      generalize ev s x = d
      cases d
      case wh g' d => exact ih (F := fun c Q => F (andO (some (g = true → g' = true)) c) Q) (fun c => h _)
      all_goals exact ih h
  unfold dgPick
  refine gob (F := fun c0 Q => match bare s c with
    | .v (.bool t) => obl (g && t) (ev s a) fun c1 x => obl (g && !t) (ev s b) fun c2 y => frc x fun x => frc y fun y => dpickV t x y (isConstTrue a) (isConstFalse b) fun d => Q (andO c0 (andO c1 c2)) d
    | _ => False) (fun c0 => ?_)
  generalize bare s c = x
  cases x
  case v x =>
    cases x
    case bool t =>
      exact gen_obl (F := fun c1 x Q => obl (g && !t) (ev s b) fun c2 y => frc x fun x => frc y fun y => dpickV t x y (isConstTrue a) (isConstFalse b) fun d => Q (andO c0 (andO c1 c2)) d)
        (fun c1 x => gen_obl (F := fun c2 y Q => frc x fun x => frc y fun y => dpickV t x y (isConstTrue a) (isConstFalse b) fun d => Q (andO c0 (andO c1 c2)) d)
        (fun c2 y => gen_frc (F := fun x Q => frc y fun y => dpickV t x y (isConstTrue a) (isConstFalse b) fun d => Q (andO c0 (andO c1 c2)) d)
        (gen_frc (F := fun y Q => dpickV t x y (isConstTrue a) (isConstFalse b) fun d => Q (andO c0 (andO c1 c2)) d) (gen_dpickV (F := fun d Q => Q (andO c0 (andO c1 c2)) d) (fun d => gen_ret _ _)))))
    all_goals exact gen_no
  all_goals exact gen_no
end
end Go.Lift

namespace Go.Lift
open Go

section
variable {P : Program} {tt : TT} {A0 : Nat → Prop} {w0 : Home} {n : Nat} {os : Objs} {s s' : DS} {a : Act} {w : World} {o : Oper} {A : Nat → Prop} {B : Home} {ρ : Operand → DV} {loc loc' : List LObj} {Q : Option Prop → DV → Prop} {ops : Array Oper}

theorem dval_loc {op : Op} (hl : ∀ x ∈ op.operands.toList, ∀ k ∈ refs (ρ x), lget loc' k = lget loc k) (h : dval tt loc op ρ Q) : dval tt loc' op ρ Q := by
  cases op
  case nilCheck x =>
    have hx := hl x (by simp [Op.operands])
    have h : dNilCheck loc (ρ x) Q := h
    show dNilCheck loc' (ρ x) Q
    generalize ρ x = d at *
    cases d
    case rp j k off =>
      have e := hx j (by simp [refs, refs0])
      unfold dNilCheck at h ⊢
      simp only [e]
      exact h
    case fn f c => cases f <;> exact h
    all_goals exact h
  case fieldAddr t x f =>
    have hx := hl x (by simp [Op.operands])
    have h : dFieldAddr tt loc t f (ρ x) Q := h
    show dFieldAddr tt loc' t f (ρ x) Q
    generalize ρ x = d at *
    cases d
    case rp j k off =>
      have e := hx j (by simp [refs, refs0])
      unfold dFieldAddr at h ⊢
      simp only [e]
      exact h
    all_goals exact h
  case indexAddr t x i =>
    have hx := hl x (by simp [Op.operands])
    have h : dIndexAddr tt loc t i (ρ x) (ρ i) Q := h
    show dIndexAddr tt loc' t i (ρ x) (ρ i) Q
    generalize ρ x = d at *
    cases d
    case own j =>
      have e := hx j (by simp [refs, refs0])
      unfold dIndexAddr dIndexSlc at h ⊢
      simp only [e]
      exact h
    all_goals exact h
  case load t x =>
    have hx := hl x (by simp [Op.operands])
    have h : dLoad tt loc t (ρ x) Q := h
    show dLoad tt loc' t (ρ x) Q
    generalize ρ x = d at *
    cases d
    case lp j off =>
      have e := hx j (by simp [refs, refs0])
      unfold dLoad at h ⊢
      simp only [e]
      exact h
    case ap j off =>
      have e := hx j (by simp [refs, refs0])
      unfold dLoad at h ⊢
      simp only [e]
      exact h
    case rp j k off =>
      have e := hx j (by simp [refs, refs0])
      unfold dLoad at h ⊢
      simp only [e]
      exact h
    all_goals exact h
  case call c =>
    obtain ⟨callee, args, ats⟩ := c
    cases callee
    case builtin b =>
      cases b
      case len =>
        have h : (match args.toList, ats.toList with
          | [x], [t] => dLen tt loc t (ρ x) Q
          | _, _ => False) := h
        show (match args.toList, ats.toList with
          | [x], [t] => dLen tt loc' t (ρ x) Q
          | _, _ => False)
        split at h
        · rename_i x t e1 e2
          have hx := hl x (by simp [Op.operands, Call.operands]; rw [← Array.mem_toList_iff, e1]; simp)
          generalize ρ x = d at *
          cases d
          case own j =>
            have e := hx j (by simp [refs, refs0])
            unfold dLen at h ⊢
            simp only [e]
            exact h
          all_goals exact h
        · exact h.elim
      all_goals exact h
    all_goals exact h
  all_goals exact h

theorem lendC_loc {d : DV} {R : DV → Prop} (h : lendC loc d R) : ∃ d', R d' ∧ ∀ loc', (∀ k ∈ refsC d, lget loc' k = lget loc k) → ∀ R' : DV → Prop, R' d' → lendC loc' d R' := by
  cases d
  case lp j o =>
    unfold lendC at h
    simp only at h
    split at h
    · rename_i t cs hg
      split at h
      · rename_i hpl
        refine ⟨_, h, fun loc' hl R' hR' => ?_⟩
        have hj := hl j (by simp [refsC])
        unfold lendC
        simp only [hj, hg, hpl]
        exact hR'
      · exact h.elim
    · exact h.elim
  all_goals exact ⟨_, h, fun _ _ _ h' => h'⟩
theorem lendCs_loc : ∀ {ds : List DV} {R : List DV → Prop}, lendCs loc ds R → ∃ l, R l ∧ ∀ loc', (∀ d ∈ ds, ∀ k ∈ refsC d, lget loc' k = lget loc k) → ∀ R' : List DV → Prop, R' l → lendCs loc' ds R'
  | [], R, h => ⟨_, h, fun _ _ _ h' => h'⟩
  | d :: r, R, h => by
    obtain ⟨d', h, k1⟩ := lendC_loc h
    obtain ⟨l, h, k2⟩ := lendCs_loc h
    exact ⟨_, h, fun loc' hl R' h' => k1 loc' (hl d (by simp)) _ (k2 loc' (fun d hd => hl d (by simp [hd])) _ h')⟩
theorem lend0_loc {d : DV} {R : DV → Prop} (h : lend0 loc d R) : ∃ d', R d' ∧ ∀ loc', (∀ k ∈ refs0 d, lget loc' k = lget loc k) → ∀ R' : DV → Prop, R' d' → lend0 loc' d R' := by
  cases d
  case own j =>
    unfold lend0 at h
    simp only at h
    split at h
    · rename_i e sz es hg
      refine ⟨_, h, fun loc' hl R' hR' => ?_⟩
      have hj := hl j (by simp [refs0])
      unfold lend0
      simp only [hj, hg]
      exact hR'
    · exact h.elim
  case lp j o =>
    unfold lend0 at h
    simp only at h
    split at h
    · rename_i t cs hg
      split at h
      · rename_i hpl
        refine ⟨_, h, fun loc' hl R' hR' => ?_⟩
        have hj := hl j (by simp [refs0])
        unfold lend0
        simp only [hj, hg, hpl]
        exact hR'
      · exact h.elim
    · exact h.elim
  case fn f caps =>
    have h : lendCs loc caps (fun l => R (.fn f l)) := h
    obtain ⟨l, h, k⟩ := lendCs_loc h
    exact ⟨_, h, fun loc' hl R' h' => k loc' (fun d hd q hq => hl q (by simp only [refs0, List.mem_flatMap]; exact ⟨d, hd, hq⟩)) (fun l => R' (.fn f l)) h'⟩
  all_goals first | exact h.elim | exact ⟨_, h, fun _ _ _ h' => h'⟩
theorem lendL_loc : ∀ {ds : List DV} {R : List DV → Prop}, lendL loc ds R → ∃ l, R l ∧ ∀ loc', (∀ d ∈ ds, ∀ k ∈ refs0 d, lget loc' k = lget loc k) → ∀ R' : List DV → Prop, R' l → lendL loc' ds R'
  | [], R, h => ⟨_, h, fun _ _ _ h' => h'⟩
  | d :: r, R, h => by
    obtain ⟨d', h, k1⟩ := lend0_loc h
    obtain ⟨l, h, k2⟩ := lendL_loc h
    exact ⟨_, h, fun loc' hl R' h' => k1 loc' (hl d (by simp)) _ (k2 loc' (fun d hd => hl d (by simp [hd])) _ h')⟩
theorem lend_loc {d : DV} {R : DV → Prop} (h : lend loc d R) : ∃ d', R d' ∧ ∀ loc', (∀ k ∈ refs d, lget loc' k = lget loc k) → ∀ R' : DV → Prop, R' d' → lend loc' d R' := by
  cases d
  case agg cs =>
    obtain ⟨l, h, k⟩ := lendL_loc (ds := cs) h
    exact ⟨_, h, fun loc' hl R' h' => k loc' (fun d hd k hk => hl k (by simp only [refs, List.mem_flatMap]; exact ⟨d, hd, hk⟩)) _ h'⟩
  case wh => exact h.elim
  case tup ds =>
    have h : match ds.any isOwn with
      | false => R (.tup ds)
      | true => False := h
    cases hn : ds.any isOwn with
    | false =>
      rw [hn] at h
      refine ⟨_, h, fun loc' _ R' h' => ?_⟩
      show match ds.any isOwn with
        | false => R' (.tup ds)
        | true => False
      rw [hn]
      exact h'
    | true =>
      rw [hn] at h
      exact h.elim
  all_goals exact lend0_loc h
theorem lendA_loc : ∀ {ds : List DV} {R : List DV → Prop}, lendA loc ds R → ∃ l, R l ∧ ∀ loc', (∀ d ∈ ds, ∀ k ∈ refs d, lget loc' k = lget loc k) → ∀ R' : List DV → Prop, R' l → lendA loc' ds R'
  | [], R, h => ⟨_, h, fun _ _ _ h' => h'⟩
  | d :: r, R, h => by
    obtain ⟨d', h, k1⟩ := lend_loc h
    obtain ⟨l, h, k2⟩ := lendA_loc h
    exact ⟨_, h, fun loc' hl R' h' => k1 loc' (hl d (by simp)) _ (k2 loc' (fun d hd => hl d (by simp [hd])) _ h')⟩

theorem oblAll_ok2 {g : Bool} : ∀ {l : List Operand} {R : Option Prop → Prop}, oblAll g s l R → ∃ c, R c ∧ ∀ {A : Nat → Prop} {os : Objs} {a : Act} {w : World}, (∀ x ∈ l, RepV A os w (a.eval x) (ev s x)) → Holds c → g = true → ∀ x ∈ l, RepV A os w (a.eval x) (bare s x)
  | [], R, hR => ⟨_, hR, fun _ _ _ x hx => by simp at hx⟩
  | x :: r, R, hR => by
    unfold oblAll at hR
    split at hR
    · rename_i g' d e
      obtain ⟨c, hR, hc⟩ := oblAll_ok2 hR
      refine ⟨_, hR, fun hx hh hg y hy => ?_⟩
      obtain ⟨h1, h2⟩ := Holds.andO.1 hh
      rcases List.mem_cons.1 hy with rfl | hy
      · have := hx y (by simp)
        unfold bare
        rw [e] at this ⊢
        exact this.wh_inv.1 (Holds.some_iff.1 h1 hg)
      · exact hc (fun x hm => hx x (by simp [hm])) h2 hg y hy
    · rename_i hnw
      obtain ⟨c, hR, hc⟩ := oblAll_ok2 hR
      refine ⟨_, hR, fun hx hh hg y hy => ?_⟩
      rcases List.mem_cons.1 hy with rfl | hy
      · have : bare s y = ev s y := by
          unfold bare
          generalize ev s y = d at hnw
          cases d <;> first | rfl | exact absurd rfl (hnw _ _)
        rw [this]
        exact hx y (by simp)
      · exact hc (fun x hm => hx x (by simp [hm])) hh hg y hy

theorem putK_app {dst : Option Tmp} {d : DV} {rd : List Nat} {mv : List (Nat × Nat)} : putK s dst d (fun s'' => s'' = TE.app ⟨dputs dst d, rd, [], mv⟩ s) := by
  refine putK_iff.2 ?_
  cases s; cases dst <;> rfl
theorem putK_app' {dst : Option Tmp} {d : DV} {rd : List Nat} {k : Nat} {ob : LObj} {mv : List (Nat × Nat)} : putK ⟨s.env, lset s.loc k ob⟩ dst d (fun s'' => s'' = TE.app ⟨dputs dst d, rd, [(k, ob)], mv⟩ s) := by
  refine putK_iff.2 ?_
  cases s; cases dst <;> rfl

def AlikeL (os os' : Objs) : Prop := ∀ (i : Nat) (x : Value) (o : LObj), o ≠ .dead → os[i]? = some (x, o) → ∃ o', os'[i]? = some (x, o') ∧ kindIs o o'
theorem RepV.keepL {A A' : Nat → Prop} {os' : Objs} {w' : World} (k : Keeps A A' w w') (ha : AlikeL os os') {x : Value} {d : DV} (h : RepV A os w x d) : RepV A' os' w' x d := by
  induction h with
  | imm h => exact .imm (h.keep k)
  | lp h =>
    obtain ⟨o', h', hk⟩ := ha _ _ _ (by simp) h
    cases o' <;> simp [kindIs] at hk
    exact .lp h'
  | ap h =>
    obtain ⟨o', h', hk⟩ := ha _ _ _ (by simp) h
    cases o' <;> simp [kindIs] at hk
    exact .ap h'
  | rp h =>
    obtain ⟨o', h', hk⟩ := ha _ _ _ (by simp) h
    cases o' <;> simp [kindIs] at hk
    obtain ⟨rfl, rfl⟩ := hk
    exact .rp h'
  | own h h1 =>
    obtain ⟨o', h', hk⟩ := ha _ _ _ (by simp) h
    cases o' <;> simp [kindIs] at hk
    exact .own h' h1
  | stale h hd h1 =>
    obtain ⟨o', h', hk⟩ := ha _ _ _ (by simp) h
    cases o' <;> simp [kindIs] at hk
    exact .stale h' hd h1
  | agg hl hone _ ih => exact .agg hl hone ih
  | tup hl hown _ ih =>
    exact .tup hl (fun i v d hv hd => by
      rcases hown i v d hv hd with h | h
      · exact .inl h
      · exact .inr (h.keep k)) ih
  | fn hl hcap _ ih => exact .fn hl hcap ih
  | wh _ h0 ih => exact .wh ih h0
theorem ObjOk.keepL {A A' : Nat → Prop} {os os' : Objs} {B : Home} {w w' : World} {x : Value} {ob : LObj} (h : ObjOk A os B w x ob) (k : Keeps A A' w w') (ha : AlikeL os os') (hb : ∀ b, ob ≠ .dead → blk x = some b → w'.heap[b]? = w.heap[b]?) : ObjOk A' os' B w' x ob := by
  cases ob with
  | dead => exact trivial
  | gone => exact h
  | gh ds => exact ⟨h.1, h.2.1, h.2.2.1, fun i v d hv hd => (h.2.2.2 i v d hv hd).keepL k ha⟩
  | cells t cs =>
    obtain ⟨g, arr, rfl, hB, hh, hs, hone, hr⟩ := h
    exact ⟨g, arr, rfl, hB, (hb g (by simp) rfl).trans hh, hs, hone, fun j v d hv hd => (hr j v d hv hd).keepL k ha⟩
  | row e sz es =>
    obtain ⟨hmine, xs, hown, hsz, hrl, hone, hr⟩ := h
    refine ⟨hmine, xs, ⟨hown.1, ?_⟩, hsz, hrl, hone, fun k' j r d h1 h2 => ?_⟩
    · rcases hown.2 with hn | ⟨g, cap, cur, rfl, hB, hh, rest⟩
      · exact .inl hn
      · exact .inr ⟨g, cap, cur, rfl, hB, (hb g (by simp) rfl).trans hh, rest⟩
    · obtain ⟨v, hv, hi⟩ := hr k' j r d h1 h2
      exact ⟨v, hv, hi.keep k⟩
theorem Rep.revive {w' : World} {i : Nat} {x y : Value} {ob : LObj} (h : Rep A0 w0 n os s a w) (hi : os[i]? = some (y, .dead)) (hg : w.grownBy w' none) (hnew : ∀ b, blk x = some b → w.heap.size ≤ b)
    (hob : Keeps (avoid A0 os) (avoid A0 (os.set i (x, ob))) w w' → AlikeL os (os.set i (x, ob)) → ObjOk (avoid A0 (os.set i (x, ob))) (os.set i (x, ob)) w0 w' x ob) : Rep A0 w0 n (os.set i (x, ob)) ⟨s.env, lset s.loc i ob⟩ a w' := by
  have hlt := (List.getElem?_eq_some_iff.1 hi).1
  have hget : ∀ {j : Nat} {y : Value} {o' : LObj}, (os.set i (x, ob))[j]? = some (y, o') → (j = i ∧ y = x ∧ o' = ob) ∨ (j ≠ i ∧ os[j]? = some (y, o')) := by
    intro j y o' hj
    by_cases e : j = i
    · subst e
      rw [List.getElem?_set_self hlt] at hj
      cases hj
      exact .inl ⟨rfl, rfl, rfl⟩
    · rw [List.getElem?_set_ne (fun e' => e e'.symm)] at hj
      exact .inr ⟨e, hj⟩
  have k : Keeps (avoid A0 os) (avoid A0 (os.set i (x, ob))) w w' := .grown hg (fun b hb hv => by
    rcases hv with hv | ⟨j, y, o', hj, hdd, hbb⟩
    · exact .inl hv
    · rcases hget hj with ⟨rfl, rfl, rfl⟩ | ⟨_, hj⟩
      · have := hnew b hbb; omega
      · exact .inr ⟨_, _, _, hj, hdd, hbb⟩)
  have halike : AlikeL os (os.set i (x, ob)) := by
    intro j y o' hd hj
    by_cases e : j = i
    · subst e
      rw [hi] at hj
      cases hj
      exact absurd rfl hd
    · exact ⟨o', by rw [List.getElem?_set_ne (fun e' => e e'.symm)]; exact hj, by cases o' <;> simp [kindIs]⟩
  refine ⟨h.size, h.defers, Grown.trans' h.gr hg (fun _ e => by cases e), h.a0, by rw [lset_eq, h.loc, List.map_set], fun t => (h.env t).keepL k halike, fun j y o' hj => ?_, fun j1 j2 y o1 z o2 b h1 h2 d1 d2 b1 b2 => ?_⟩
  · rcases hget hj with ⟨rfl, rfl, rfl⟩ | ⟨hne, hj⟩
    · exact hob k halike
    · exact (h.obj j y o' hj).keepL k halike (fun b hdd hb => hg.block b ((h.obj j y o' hj).blk_ge hdd hb).2 (by simp))
  · rcases hget h1 with ⟨rfl, rfl, rfl⟩ | ⟨_, g1⟩ <;> rcases hget h2 with ⟨rfl, rfl, rfl⟩ | ⟨_, g2⟩
    · rfl
    · have := hnew b b1
      have := ((h.obj _ _ _ g2).blk_ge d2 b2).2
      omega
    · have := hnew b b2
      have := ((h.obj _ _ _ g1).blk_ge d1 b1).2
      omega
    · exact h.inj _ _ _ _ _ _ b g1 g2 d1 d2 b1 b2
def AlikeG (i : Nat) (os os' : Objs) : Prop := (∃ x e sz es, os[i]? = some (x, .row e sz es)) ∧ (∃ y, os'[i]? = some (y, .gone)) ∧ ∀ (j : Nat) (x : Value) (o : LObj), j ≠ i → o ≠ .dead → os[j]? = some (x, o) → ∃ o', os'[j]? = some (x, o') ∧ kindIs o o'
theorem RepV.keepG {A A' : Nat → Prop} {os' : Objs} {w' : World} {i : Nat} (k : Keeps A A' w w') (ha : AlikeG i os os') {x : Value} {d : DV} (h : RepV A os w x d) : RepV A' os' w' x d := by
  obtain ⟨⟨xi, ei, szi, esi, hi⟩, ⟨yi, hi'⟩, ha⟩ := ha
  induction h with
  | imm h => exact .imm (h.keep k)
  | lp h =>
    obtain ⟨o', h', hk⟩ := ha _ _ _ (fun e => by subst e; rw [hi] at h; cases h) (by simp) h
    cases o' <;> simp [kindIs] at hk
    exact .lp h'
  | ap h =>
    obtain ⟨o', h', hk⟩ := ha _ _ _ (fun e => by subst e; rw [hi] at h; cases h) (by simp) h
    cases o' <;> simp [kindIs] at hk
    exact .ap h'
  | @rp j _ _ _ _ _ _ _ _ h =>
    by_cases e : j = i
    · subst e
      exact .stale hi' (.inr ⟨_, _, rfl⟩) rfl
    · obtain ⟨o', h', hk⟩ := ha _ _ _ e (by simp) h
      cases o' <;> simp [kindIs] at hk
      obtain ⟨rfl, rfl⟩ := hk
      exact .rp h'
  | @own j _ _ _ _ h h1 =>
    by_cases e : j = i
    · subst e
      exact .stale hi' (.inl rfl) h1
    · obtain ⟨o', h', hk⟩ := ha _ _ _ e (by simp) h
      cases o' <;> simp [kindIs] at hk
      exact .own h' h1
  | @stale j _ _ _ h hd h1 =>
    obtain ⟨o', h', hk⟩ := ha _ _ _ (fun e => by subst e; rw [hi] at h; cases h) (by simp) h
    cases o' <;> simp [kindIs] at hk
    exact .stale h' hd h1
  | agg hl hone _ ih => exact .agg hl hone ih
  | tup hl hown _ ih =>
    exact .tup hl (fun i v d hv hd => by
      rcases hown i v d hv hd with h | h
      · exact .inl h
      · exact .inr (h.keep k)) ih
  | fn hl hcap _ ih => exact .fn hl hcap ih
  | wh _ h0 ih => exact .wh ih h0
theorem ObjOk.keepG {A A' : Nat → Prop} {os os' : Objs} {B : Home} {w w' : World} {i : Nat} {x : Value} {ob : LObj} (h : ObjOk A os B w x ob) (k : Keeps A A' w w') (ha : AlikeG i os os') (hb : ∀ b, ob ≠ .dead → blk x = some b → w'.heap[b]? = w.heap[b]?) : ObjOk A' os' B w' x ob := by
  cases ob with
  | dead => exact trivial
  | gone => exact h
  | gh ds => exact ⟨h.1, h.2.1, h.2.2.1, fun i v d hv hd => (h.2.2.2 i v d hv hd).keepG k ha⟩
  | cells t cs =>
    obtain ⟨g, arr, rfl, hB, hh, hs, hone, hr⟩ := h
    exact ⟨g, arr, rfl, hB, (hb g (by simp) rfl).trans hh, hs, hone, fun j v d hv hd => (hr j v d hv hd).keepG k ha⟩
  | row e sz es =>
    obtain ⟨hmine, xs, hown, hsz, hrl, hone, hr⟩ := h
    refine ⟨hmine, xs, ⟨hown.1, ?_⟩, hsz, hrl, hone, fun k' j r d h1 h2 => ?_⟩
    · rcases hown.2 with hn | ⟨g, cap, cur, rfl, hB, hh, rest⟩
      · exact .inl hn
      · exact .inr ⟨g, cap, cur, rfl, hB, (hb g (by simp) rfl).trans hh, rest⟩
    · obtain ⟨v, hv, hi⟩ := hr k' j r d h1 h2
      exact ⟨v, hv, hi.keep k⟩
theorem Rep.regrow {w' : World} {i q e e' sz sz' : Nat} {es es' : List (List DV)} {x y x' : Value} {xs : List Value} (h : Rep A0 w0 n os s a w) (hi : os[i]? = some (x, .row e sz es)) (hq : os[q]? = some (y, .dead)) (hg : w.grownBy w' (blk x)) (hb : ∀ b, blk x' = some b → blk x = some b ∨ w.heap.size ≤ b)
    (hown : w'.ownsRow 0 e' sz' x' es'.length xs) (hsz : 0 < sz') (hr : RowRep (avoid A0 os) w xs es' sz') :
    Rep A0 w0 n ((os.set i (.nilFunc, .gone)).set q (x', .row e' sz' es')) ⟨s.env, lset (lset s.loc i .gone) q (.row e' sz' es')⟩ a w' ∧ ((os.set i (.nilFunc, .gone)).set q (x', .row e' sz' es'))[q]? = some (x', .row e' sz' es') := by
  have hne : i ≠ q := fun e => by subst e; rw [hi] at hq; cases hq
  have hlti := (List.getElem?_eq_some_iff.1 hi).1
  have hltq := (List.getElem?_eq_some_iff.1 hq).1
  have hself : ((os.set i (.nilFunc, .gone)).set q (x', .row e' sz' es'))[q]? = some (x', .row e' sz' es') := by rw [List.getElem?_set_self (by simpa using hltq)]
  have hgone : ((os.set i (.nilFunc, .gone)).set q (x', .row e' sz' es'))[i]? = some (.nilFunc, .gone) := by rw [List.getElem?_set_ne (fun e => hne e.symm), List.getElem?_set_self hlti]
  generalize hos : (os.set i (.nilFunc, .gone)).set q (x', .row e' sz' es') = os' at hself hgone ⊢
  refine ⟨?_, hself⟩
  have hget : ∀ {j : Nat} {z : Value} {o' : LObj}, os'[j]? = some (z, o') → (j = q ∧ z = x' ∧ o' = .row e' sz' es') ∨ (j = i ∧ z = .nilFunc ∧ o' = .gone) ∨ (j ≠ i ∧ j ≠ q ∧ os[j]? = some (z, o')) := by
    intro j z o' hj
    by_cases e1 : j = q
    · subst e1; rw [hself] at hj; cases hj; exact .inl ⟨rfl, rfl, rfl⟩
    · by_cases e2 : j = i
      · subst e2; rw [hgone] at hj; cases hj; exact .inr (.inl ⟨rfl, rfl, rfl⟩)
      · rw [← hos, List.getElem?_set_ne (fun e' => e1 e'.symm), List.getElem?_set_ne (fun e' => e2 e'.symm)] at hj
        exact .inr (.inr ⟨e2, e1, hj⟩)
  have ha : AlikeG i os os' := by
    refine ⟨⟨_, _, _, _, hi⟩, ⟨_, hgone⟩, fun j z o hj hd ho => ⟨o, ?_, by cases o <;> simp [kindIs]⟩⟩
    have : j ≠ q := fun e => by subst e; rw [hq] at ho; cases ho; exact hd rfl
    rw [← hos, List.getElem?_set_ne (fun e' => this e'.symm), List.getElem?_set_ne (fun e' => hj e'.symm)]
    exact ho
  have hav : ∀ b, b < w.heap.size → avoid A0 os' b → avoid A0 os b := by
    intro b hbl hv
    rcases hv with hv | ⟨j, z, o', hj, hdd, hbb⟩
    · exact .inl hv
    · rcases hget hj with ⟨rfl, rfl, rfl⟩ | ⟨rfl, rfl, rfl⟩ | ⟨_, _, hj⟩
      · rcases hb b hbb with h1 | h1
        · exact .inr ⟨i, _, _, hi, by simp, h1⟩
        · omega
      · simp [blk] at hbb
      · exact .inr ⟨_, _, _, hj, hdd, hbb⟩
  have k : Keeps (avoid A0 os) (avoid A0 os') w w' := ⟨hg.size, hav, fun b hbl hn => hg.block b hbl (fun e => hn (.inr ⟨i, x, _, hi, by simp, e.symm⟩))⟩
  refine ⟨h.size, h.defers, Grown.trans' h.gr hg (fun g e => ((h.obj i x _ hi).blk_ge (by simp) e).1), h.a0, by rw [← hos, lset_eq, lset_eq, h.loc, List.map_set, List.map_set], fun t => (h.env t).keepG k ha, fun j z o' hj => ?_, fun j1 j2 z o1 z2 o2 b h1 h2 d1 d2 b1 b2 => ?_⟩
  · rcases hget hj with ⟨rfl, rfl, rfl⟩ | ⟨rfl, rfl, rfl⟩ | ⟨hne1, _, hj⟩
    · exact row_obj (fun b hbb => (hb b hbb).elim (fun h1 => ((h.obj _ _ _ hi).blk_ge (by simp) h1).1) (Home.mine_new h.gr)) hown hsz (hr.keep k)
    · exact rfl
    · exact (h.obj j z o' hj).keepG k ha (fun b hdd hbb => hg.block b ((h.obj j z o' hj).blk_ge hdd hbb).2 (fun e => hne1 (h.inj j i _ _ _ _ b hj hi hdd (by simp) hbb e.symm)))
  · have one : ∀ {j z o'}, os'[j]? = some (z, o') → o' ≠ .dead → blk z = some b → (j = q ∧ (blk x = some b ∨ w.heap.size ≤ b)) ∨ (j ≠ i ∧ os[j]? = some (z, o') ∧ b < w.heap.size) := by
      intro j z o' hj hd hbb
      rcases hget hj with ⟨rfl, rfl, rfl⟩ | ⟨rfl, rfl, rfl⟩ | ⟨hne1, _, hj⟩
      · exact .inl ⟨rfl, hb b hbb⟩
      · simp [blk] at hbb
      · exact .inr ⟨hne1, hj, ((h.obj _ _ _ hj).blk_ge hd hbb).2⟩
    rcases one h1 d1 b1 with ⟨rfl, p1⟩ | ⟨n1, g1, l1⟩ <;> rcases one h2 d2 b2 with ⟨rfl, p2⟩ | ⟨n2, g2, l2⟩
    · rfl
    · rcases p1 with p1 | p1
      · exact absurd (h.inj _ _ _ _ _ _ b g2 hi d2 (by simp) b2 p1) n2
      · omega
    · rcases p2 with p2 | p2
      · exact absurd (h.inj _ _ _ _ _ _ b g1 hi d1 (by simp) b1 p2) n1
      · omega
    · exact h.inj _ _ _ _ _ _ b g1 g2 d1 d2 b1 b2
theorem putK_app2 {dst : Option Tmp} {d : DV} {rd : List Nat} {k k' : Nat} {ob ob' : LObj} {mv : List (Nat × Nat)} : putK ⟨s.env, lset (lset s.loc k ob) k' ob'⟩ dst d (fun s'' => s'' = TE.app ⟨dputs dst d, rd, [(k, ob), (k', ob')], mv⟩ s) := by
  refine putK_iff.2 ?_
  cases s; cases dst <;> rfl
theorem free_os {i : Nat} (h : Rep A0 w0 n os s a w) (hl : lget s.loc i = .dead) (hi : i < s.loc.length) : ∃ y, os[i]? = some (y, .dead) := by
  rw [h.len] at hi
  rw [lget_eq, h.loc, List.getElem?_map, List.getElem?_eq_getElem hi] at hl
  simp only [Option.map_some, Option.getD_some] at hl
  exact ⟨os[i].1, by rw [List.getElem?_eq_getElem hi, ← hl]⟩
theorem freeAt_iff {l : List LObj} {i : Nat} (h : freeAt l i = true) : i < l.length ∧ lget l i = .dead := by
  simp only [freeAt, Bool.and_eq_true] at h
  refine ⟨Nat.le_of_ble_eq_true h.1, ?_⟩
  generalize lget l i = o at h
  cases o <;> first | rfl | (simp [isDead] at h)

def Runs (P : Program) (A0 : Nat → Prop) (w0 : Home) (n : Nat) (o : Oper) (te : TE) (s : DS) (E : Exit → Act → World → Prop) : Prop :=
  ∀ (os' : Objs) (s' : DS) (a : Act) (w : World), Rep A0 w0 n os' s' a w → (∀ x ∈ o.op.operands.toList, ev s' x = ev s x) → (∀ k, (k ∈ te.rd ∨ te.obj k) → lget s'.loc k = lget s.loc k) → s'.loc.length = s.loc.length →
    o.wp P a w (Nx A0 w0 n fun s'' => s'' = te.app s') E
variable {E : Exit → Act → World → Prop} {idx : Nat}
theorem refs_in {l : List Operand} {x : Operand} {k : Nat} (hx : x ∈ l) (hk : k ∈ refs (ρ x)) : k ∈ opRefs ρ l := List.mem_flatMap.2 ⟨x, hx, hk⟩
theorem runs_valR (hT : tabOk P tt = true) (h0 : (tinfo tt 0).size = 0) (hd : ∀ t, o.dst = some t → t < n) {wrap : DV → DV} {c : Option Prop} {d : DV}
    (hgen : ∀ Q' : Option Prop → DV → Prop, Q' c d → dval tt s.loc o.op ρ Q') (hc : Holds c)
    (hop : ∀ {os : Objs} {a : Act} {w : World}, (∀ x ∈ o.op.operands.toList, RepV (avoid A0 os) os w (a.eval x) (ev s x)) → ∀ x ∈ o.op.operands.toList, RepV (avoid A0 os) os w (a.eval x) (ρ x))
    (hw : ∀ {os : Objs} {w : World} {x : Value} {d : DV}, RepV (avoid A0 os) os w x d → RepV (avoid A0 os) os w x (wrap d))
    {rd : List Nat} (hloc : ∀ (loc' : List LObj) (Q' : Option Prop → DV → Prop), (∀ k ∈ rd, lget loc' k = lget s.loc k) → dval tt s.loc o.op ρ Q' → dval tt loc' o.op ρ Q') :
    Runs P A0 w0 n o ⟨dputs o.dst (wrap d), rd, [], []⟩ s E := by
  intro os' s' a w hr he hl _
  have h1 := hgen (fun c' d' => c' = c ∧ d' = d) ⟨rfl, rfl⟩
  have h2 : dval tt s'.loc o.op ρ (fun c' d' => c' = c ∧ d' = d) := hloc s'.loc _ (fun k hk => hl k (.inl hk)) h1
  rw [hr.loc] at h2
  obtain ⟨_, _, ⟨rfl, rfl⟩, hg⟩ := dval_ok hT h0 hr.obj (a := a) (hop (fun x hx => by rw [← he x hx]; exact hr.ev x)) h2
  obtain ⟨x, hrun, hrx⟩ := hg hc
  exact wp_value hrun (Nx.put hr hd (hw hrx) putK_app)

theorem runs_val (hT : tabOk P tt = true) (h0 : (tinfo tt 0).size = 0) (hd : ∀ t, o.dst = some t → t < n) {wrap : DV → DV} {c : Option Prop} {d : DV}
    (hgen : ∀ Q' : Option Prop → DV → Prop, Q' c d → dval tt s.loc o.op ρ Q') (hc : Holds c)
    (hop : ∀ {os : Objs} {a : Act} {w : World}, (∀ x ∈ o.op.operands.toList, RepV (avoid A0 os) os w (a.eval x) (ev s x)) → ∀ x ∈ o.op.operands.toList, RepV (avoid A0 os) os w (a.eval x) (ρ x))
    (hw : ∀ {os : Objs} {w : World} {x : Value} {d : DV}, RepV (avoid A0 os) os w x d → RepV (avoid A0 os) os w x (wrap d)) :
    Runs P A0 w0 n o ⟨dputs o.dst (wrap d), opRefs ρ o.op.operands.toList, [], []⟩ s E :=
  runs_valR hT h0 hd hgen hc hop hw (fun loc' Q' hl h => dval_loc (fun x hx k hk => hl k (refs_in hx hk)) h)
theorem runs_val' (hT : tabOk P tt = true) (h0 : (tinfo tt 0).size = 0) (hd : ∀ t, o.dst = some t → t < n) {wrap : DV → DV} {c : Option Prop} {d : DV}
    (hgen : ∀ Q' : Option Prop → DV → Prop, Q' c d → dval tt s.loc o.op ρ Q') (hc : Holds c)
    (hop : ∀ {os : Objs} {a : Act} {w : World}, (∀ x ∈ o.op.operands.toList, RepV (avoid A0 os) os w (a.eval x) (ev s x)) → ∀ x ∈ o.op.operands.toList, RepV (avoid A0 os) os w (a.eval x) (ρ x))
    (hw : ∀ {os : Objs} {w : World} {x : Value} {d : DV}, RepV (avoid A0 os) os w x d → RepV (avoid A0 os) os w x (wrap d)) :
    Runs P A0 w0 n o ⟨dputs o.dst (wrap d), valRefs o.op ρ, [], []⟩ s E := by
  refine runs_valR hT h0 hd hgen hc hop hw (fun loc' Q' hl h => ?_)
  unfold valRefs at hl
  split at hl
  · rename_i e
    rw [e] at h ⊢
    exact h
  · rename_i e
    rw [e] at h ⊢
    exact h
  · exact dval_loc (fun x hx k hk => hl k (refs_in hx hk)) h

theorem call_go {f : Operand} {k : FuncId} {caps : List DV} {args : Array Operand} {ats : Array TypeId} {wrap : DV → DV} {K : DS → Prop} (ho : o.op = .call { callee := .value f, args := args, argTypes := ats }) (h : Rep A0 w0 n os s a w) (hd : ∀ t, o.dst = some t → t < n)
    (hops : ∀ x ∈ o.op.operands.toList, RepV (avoid A0 os) os w (a.eval x) (ρ x)) (ef : ρ f = .fn (.func k) caps)
    (hw : ∀ {os : Objs} {w : World} {x : Value} {d : DV}, RepV (avoid A0 os) os w x d → RepV (avoid A0 os) os w x (wrap d))
    (hK : dcall P k (args.toList.map ρ ++ caps) s fun r s => putK s o.dst (wrap r) K) : o.wp P a w (Nx A0 w0 n K) E := by
  have hf := hops f (by rw [ho]; simp [Op.operands, Call.operands])
  rw [ef] at hf
  obtain ⟨vs, hv, hl, hp⟩ := hf.fn_inv
  obtain ⟨h1, h2⟩ := args_rep (os := os) (A := avoid A0 os) (w := w) (a := a) (l := args.toList) (ρ := ρ) rfl (fun x hx => hops x (by rw [ho]; simp only [Op.operands, Call.operands, Array.toList_append, List.mem_append]; exact .inr hx)) hl hp
  obtain ⟨hc, hcall⟩ := dcall_ok h h1 h2 hK
  unfold Oper.wp
  rw [call_exec ho hv hc]
  refine hcall.mono fun e w' he => ?_
  obtain ⟨v, r, os', s', rfl, hr, hrv, hk⟩ := he
  exact Nx.put hr hd (hw hrv) hk

theorem runs_call {f : Operand} {k : FuncId} {caps : List DV} {args : Array Operand} {ats : Array TypeId} {wrap : DV → DV} {l1 l' : List DV} {r : DV} (ho : o.op = .call { callee := .value f, args := args, argTypes := ats }) (hd : ∀ t, o.dst = some t → t < n)
    (hops : ∀ {os : Objs} {a : Act} {w : World}, (∀ x ∈ o.op.operands.toList, RepV (avoid A0 os) os w (a.eval x) (ev s x)) → ∀ x ∈ o.op.operands.toList, RepV (avoid A0 os) os w (a.eval x) (ρ x)) (ef : ρ f = .fn (.func k) caps)
    (hw : ∀ {os : Objs} {w : World} {x : Value} {d : DV}, RepV (avoid A0 os) os w x d → RepV (avoid A0 os) os w x (wrap d))
    (hgen : ∀ loc', (∀ d ∈ args.toList.map ρ ++ caps, ∀ k ∈ refs d, lget loc' k = lget s.loc k) → ∀ R' : List DV → Prop, R' l1 → lendA loc' (args.toList.map ρ ++ caps) R')
    (hle : DleAll l1 l') (hret : Ret P k l' r) (hs : owns (args.toList.map ρ ++ caps) = [] ∨ scalar r = true) :
    Runs P A0 w0 n o ⟨dputs o.dst (wrap r), opRefs ρ o.op.operands.toList ++ caps.flatMap refs, [], []⟩ s E := by
  intro os' s' a w hr he hl _
  refine call_go ho hr hd (hops (fun x hx => by rw [← he x hx]; exact hr.ev x)) ef hw (wrap := wrap) ?_
  unfold dcall
  refine hgen _ (fun d hdm k hk => hl k (.inl ?_)) _ ⟨l', r, hle, hret, ?_⟩
  · rcases List.mem_append.1 hdm with hdm | hdm
    · obtain ⟨x, hx, rfl⟩ := List.mem_map.1 hdm
      refine List.mem_append.2 (.inl (refs_in (x := x) ?_ hk))
      rw [ho]
      simp only [Op.operands, Call.operands, Array.toList_append, List.mem_append]
      exact .inr hx
    · exact List.mem_append.2 (.inr (List.mem_flatMap.2 ⟨d, hdm, hk⟩))
  · rcases hs with hs | hs
    · rw [hs]; exact putK_app
    · cases owns (args.toList.map ρ ++ caps) with
      | nil => exact putK_app
      | cons d ds => simp only [hs]; exact putK_app

theorem runs_alloc (hT : tabOk P tt = true) {t : TypeId} (ho : o.op = .alloc t) (hd : ∀ t, o.dst = some t → t < n) (hs : (tinfo tt t).size ≠ 0) (hf : freeAt s.loc idx = true) :
    Runs P A0 w0 n o ⟨dputs o.dst (.lp idx 0), [], [(idx, .cells t (tinfo tt t).zero)], []⟩ s E := by
  intro os' s' a w hr he hl hlen
  obtain ⟨hlt, hdead⟩ := freeAt_iff hf
  have hdead : lget s'.loc idx = .dead := (hl idx (.inr ⟨_, List.mem_cons_self⟩)).trans hdead
  obtain ⟨y, hi⟩ := free_os hr hdead (by omega)
  obtain ⟨z, hz, hzr, _⟩ := zero_run (A := avoid A0 os') (os := os') (w := w) hT hs
  have hp := hr.revive (x := .pointer (some ⟨w.heap.size, 0, none⟩)) (ob := .cells t (tinfo tt t).zero) (w' := w.alloc (.cells z.cells t)) hi (World.grownBy_alloc w _ none) (fun b hb => by simp [blk] at hb; omega)
    (fun k ha => ⟨w.heap.size, z.cells, rfl, Home.mine_new hr.gr (Nat.le_refl _), heap_alloc_new w _, hzr.size, hzr.one, fun i v d hv hd => (hzr.rep i v d hv hd).keepL k ha⟩)
  refine wp_value (x := .pointer (some ⟨w.heap.size, 0, none⟩)) (w' := w.alloc (.cells z.cells t)) ?_ (Nx.put hp hd (.lp (List.getElem?_set_self (List.getElem?_eq_some_iff.1 hi).1)) putK_app')
  simp only [execOp, ho, Instr.alloc, Sem.run_bind, hz, Result.andThen_ok, newVar, newRow, run_newObj, Sem.run_pure, World.alloc_eq]
end
end Go.Lift
