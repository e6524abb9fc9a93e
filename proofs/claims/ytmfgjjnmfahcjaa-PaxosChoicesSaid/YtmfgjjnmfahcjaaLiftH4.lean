/- A data-level logic for the model: what a body does to data; its soundness (part LiftH4). No conditions. -/
import Derived.Test.YtmfgjjnmfahcjaaLiftH3
set_option linter.unusedSimpArgs false
set_option linter.unusedVariables false
namespace Go.Lift
open Go

/-! # Calls that are handed objects: the operation -/
section
variable {P : Program} {tt : TT} {A0 : Nat → Prop} {w0 : Home} {n : Nat} {os os' : Objs} {s : DS} {a : Act} {w : World} {o : Oper} {K : DS → Prop} {A : Nat → Prop} {pass : List Nat} {J : List Nat}

def HdIn (pass : List Nat) : DV → Prop
  | .own j | .lp j _ | .ap j _ | .rp j _ _ => j ∈ pass
  | _ => False
/-- data, or a handle of an object that is handed on -/
def LX0 (A0 : Nat → Prop) (os : Objs) (J pass : List Nat) (w : World) (v : Value) (d : DV) : Prop := Imm (avoidX A0 os J) w v d ∨ (HdIn pass d ∧ RepV (avoid A0 os) os w v d)
def LX (A0 : Nat → Prop) (os : Objs) (J pass : List Nat) (w : World) (v : Value) (d : DV) : Prop := LX0 A0 os J pass w v d ∨ ∃ (vs : List Value) (ds : List DV), v = .agg vs.toArray ∧ d = .agg ds ∧ vs.length = ds.length ∧ (∀ x ∈ vs, x.oneCell' = true) ∧ ∀ (i : Nat) x e, vs[i]? = some x → ds[i]? = some e → LX0 A0 os J pass w x e
theorem LX0.rep (h' : ∀ b, avoid A0 os' b → avoidX A0 os J b) (hk : ∀ (i : Nat) x o, i ∉ J → os[i]? = some (x, o) → ∃ o', os'[i]? = some (x, o') ∧ kindIs o o') (hpj : ∀ j ∈ pass, j ∉ J) {v : Value} {d : DV} (h : LX0 A0 os J pass w v d) : RepV (avoid A0 os') os' w v d := by
  rcases h with h | ⟨hp, h⟩
  · exact .imm (h.keep (Keeps.less h'))
  · cases h with
    | imm h => cases h <;> first | exact hp.elim | exact .imm .junk
    | lp h =>
      obtain ⟨o', h1, h2⟩ := hk _ _ _ (hpj _ hp) h
      cases o' <;> simp [kindIs] at h2
      exact .lp h1
    | ap h =>
      obtain ⟨o', h1, h2⟩ := hk _ _ _ (hpj _ hp) h
      cases o' <;> simp [kindIs] at h2
      exact .ap h1
    | rp h =>
      obtain ⟨o', h1, h2⟩ := hk _ _ _ (hpj _ hp) h
      cases o' <;> simp [kindIs] at h2
      obtain ⟨rfl, rfl⟩ := h2
      exact .rp h1
    | own h h0 =>
      obtain ⟨o', h1, h2⟩ := hk _ _ _ (hpj _ hp) h
      cases o' <;> simp [kindIs] at h2
      exact .own h1 h0
    | stale h hd h0 =>
      rcases hd with rfl | ⟨_, _, rfl⟩
      · obtain ⟨o', h1, h2⟩ := hk _ _ _ (hpj _ hp) h
        cases o' <;> simp [kindIs] at h2
        exact .stale h1 (.inl rfl) h0
      · obtain ⟨o', h1, h2⟩ := hk _ _ _ (hpj _ hp) h
        cases o' <;> simp [kindIs] at h2
        exact .stale h1 (.inr ⟨_, _, rfl⟩) h0
    | agg => exact hp.elim
    | fn => exact hp.elim
    | wh => exact hp.elim
theorem LX.rep (h' : ∀ b, avoid A0 os' b → avoidX A0 os J b) (hk : ∀ (i : Nat) x o, i ∉ J → os[i]? = some (x, o) → ∃ o', os'[i]? = some (x, o') ∧ kindIs o o') (hpj : ∀ j ∈ pass, j ∉ J) {v : Value} {d : DV} (h : LX A0 os J pass w v d) : RepV (avoid A0 os') os' w v d := by
  rcases h with h | ⟨vs, ds, rfl, rfl, hl, hone, hp⟩
  · exact h.rep h' hk hpj
  · exact .agg hl hone (fun i x e hx he => (hp i x e hx he).rep h' hk hpj)
theorem lendX0_ok (h : Rep A0 w0 n os s a w) {v : Value} {d : DV} {Q : DV → Prop} (hr : RepV (avoid A0 os) os w v d) (hJ : ∀ e j, e ∈ own0 d → hIx e = some j → pass.contains j = false → j ∈ J) (hl : lendX0 pass s.loc d Q) : ∃ d', Q d' ∧ LX0 A0 os J pass w v d' := by
  have other : (∀ e j, e ∈ own0 d → hIx e = some j → j ∈ J) → lend0 s.loc d Q → ∃ d', Q d' ∧ LX0 A0 os J pass w v d' := fun hj hl => by
    obtain ⟨d', h1, h2⟩ := lend0_ok h hr hj hl
    exact ⟨d', h1, .inl h2⟩
  cases d with
  | own j =>
    simp only [lendX0] at hl
    split at hl
    · rename_i hc
      exact ⟨_, hl, .inr ⟨by simpa [HdIn] using hc, hr⟩⟩
    · rename_i hc
      exact other (fun e j' he hj => by
        simp only [own0, List.mem_singleton] at he
        subst he
        simp [hIx] at hj
        subst hj
        exact hJ (.own _) _ (by simp [own0]) rfl hc) hl
  | lp j off =>
    simp only [lendX0] at hl
    split at hl
    · rename_i hc
      exact ⟨_, hl, .inr ⟨by simpa [HdIn] using hc, hr⟩⟩
    · rename_i hc
      exact other (fun e j' he hj => by
        simp only [own0, List.mem_singleton] at he
        subst he
        simp [hIx] at hj
        subst hj
        exact hJ (.lp _ off) _ (by simp [own0]) rfl hc) hl
  | ap j off =>
    simp only [lendX0] at hl
    split at hl
    · rename_i hc
      exact ⟨_, hl, .inr ⟨by simpa [HdIn] using hc, hr⟩⟩
    · exact hl.elim
  | rp j kk off =>
    simp only [lendX0] at hl
    split at hl
    · rename_i hc
      exact ⟨_, hl, .inr ⟨by simpa [HdIn] using hc, hr⟩⟩
    · exact hl.elim
  | fn f caps =>
    simp only [lendX0] at hl
    split at hl
    · exact hl.elim
    · rename_i hc
      refine other (fun e j he hj => hJ e j he hj ?_) hl
      simp only [own0, List.mem_filter] at he
      rw [List.any_eq_false] at hc
      have := hc e he.1
      cases e <;> simp [isLp] at he
      simp [hIx] at hj
      subst hj
      simpa [jkC] using this
  | _ => exact other (fun e j he => by simp [own0] at he) hl
theorem lendXL_ok (h : Rep A0 w0 n os s a w) : ∀ (vs : List Value) (ds : List DV) {Q : List DV → Prop}, vs.length = ds.length → (∀ (i : Nat) v d, vs[i]? = some v → ds[i]? = some d → RepV (avoid A0 os) os w v d) → (∀ e j, e ∈ ds.flatMap own0 → hIx e = some j → pass.contains j = false → j ∈ J) →
    lendXL pass s.loc ds Q → ∃ ds', Q ds' ∧ vs.length = ds'.length ∧ ∀ (i : Nat) v d, vs[i]? = some v → ds'[i]? = some d → LX0 A0 os J pass w v d
  | [], [], Q, _, _, _, hl => ⟨[], hl, rfl, by simp⟩
  | [], _ :: _, Q, h1, _, _, _ => by simp at h1
  | _ :: _, [], Q, h1, _, _, _ => by simp at h1
  | v :: vs, d :: ds, Q, h1, hr, hJ, hl => by
    obtain ⟨d', hl, hi⟩ := lendX0_ok h (hr 0 v d rfl rfl) (fun e j he hj => hJ e j (by simp [List.flatMap_cons, he]) hj) hl
    obtain ⟨ds', hq, hlen, hp⟩ := lendXL_ok h vs ds (by simpa using h1) (fun i v d hv hd => hr (i + 1) v d (by simpa using hv) (by simpa using hd)) (fun e j he hj => hJ e j (by rw [List.flatMap_cons]; exact List.mem_append.2 (.inr he)) hj) hl
    refine ⟨d' :: ds', hq, by simp [hlen], fun i v' e hv he => ?_⟩
    cases i with
    | zero => simp at hv he; subst hv he; exact hi
    | succ i => exact hp i v' e (by simpa using hv) (by simpa using he)
theorem lendX_ok (h : Rep A0 w0 n os s a w) {v : Value} {d : DV} {Q : DV → Prop} (hr : RepV (avoid A0 os) os w v d) (hJ : ∀ e j, e ∈ owns [d] → hIx e = some j → pass.contains j = false → j ∈ J) (hl : lendX pass s.loc d Q) : ∃ d', Q d' ∧ LX A0 os J pass w v d' := by
  by_cases hd : ∃ cs, d = .agg cs
  · obtain ⟨cs, rfl⟩ := hd
    obtain ⟨vs, rfl, hlen, hone, hp⟩ := hr.agg_inv
    obtain ⟨ds', hq, hl2, hp2⟩ := lendXL_ok h vs cs hlen hp (fun e j he hj => hJ e j (by
      simp only [owns, List.append_nil]
      exact he) hj) hl
    exact ⟨_, hq, .inr ⟨vs, ds', rfl, rfl, hl2, hone, hp2⟩⟩
  · have h1 : lendX pass s.loc d Q = lendX0 pass s.loc d Q := by cases d <;> first | rfl | exact absurd ⟨_, rfl⟩ hd
    rw [h1] at hl
    have h2 : owns [d] = own0 d := by cases d <;> first | exact absurd ⟨_, rfl⟩ hd | simp [owns]
    rw [h2] at hJ
    obtain ⟨d', hq, hx⟩ := lendX0_ok h hr hJ hl
    exact ⟨d', hq, .inl hx⟩
theorem lendXA_ok (h : Rep A0 w0 n os s a w) : ∀ (vs : List Value) (ds : List DV) {Q : List DV → Prop}, vs.length = ds.length → (∀ (i : Nat) v d, vs[i]? = some v → ds[i]? = some d → RepV (avoid A0 os) os w v d) → (∀ e j, e ∈ owns ds → hIx e = some j → pass.contains j = false → j ∈ J) →
    lendXA pass s.loc ds Q → ∃ ds', Q ds' ∧ vs.length = ds'.length ∧ ∀ (i : Nat) v d, vs[i]? = some v → ds'[i]? = some d → LX A0 os J pass w v d
  | [], [], Q, _, _, _, hl => ⟨[], hl, rfl, by simp⟩
  | [], _ :: _, Q, h1, _, _, _ => by simp at h1
  | _ :: _, [], Q, h1, _, _, _ => by simp at h1
  | v :: vs, d :: ds, Q, h1, hr, hJ, hl => by
    obtain ⟨d', hl, hi⟩ := lendX_ok h (hr 0 v d rfl rfl) (fun e j he hj => hJ e j (by rw [owns_cons]; exact List.mem_append.2 (.inl he)) hj) hl
    obtain ⟨ds', hq, hlen, hp⟩ := lendXA_ok h vs ds (by simpa using h1) (fun i v d hv hd => hr (i + 1) v d (by simpa using hv) (by simpa using hd)) (fun e j he hj => hJ e j (by rw [owns_cons]; exact List.mem_append.2 (.inr he)) hj) hl
    refine ⟨d' :: ds', hq, by simp [hlen], fun i v' e hv he => ?_⟩
    cases i with
    | zero => simp at hv he; subst hv he; exact hi
    | succ i => exact hp i v' e (by simpa using hv) (by simpa using he)
theorem ownsX_ix {args : List DV} {e : DV} {j : Nat} (he : e ∈ owns args) (hj : hIx e = some j) (hn : pass.contains j = false) : j ∈ ownIx (ownsX pass args) := by
  refine own_ix (d := e) ?_ hj
  simp only [ownsX, List.mem_filter]
  refine ⟨he, ?_⟩
  cases e <;> simp [hIx] at hj
  · subst hj; simpa using hn
  · subst hj; simpa using hn
theorem ownsX_out {args : List DV} {j : Nat} (h : j ∈ ownIx (ownsX pass args)) : j ∉ pass := by
  obtain ⟨e, he, hj⟩ := List.mem_filterMap.1 h
  simp only [ownsX, List.mem_filter] at he
  cases e <;> simp [hIx] at hj
  · subst hj; simpa using he.2
  · subst hj; simpa using he.2
theorem from_get : ∀ (q i k : Nat), k < q → (from' i q)[k]? = some (i + k)
  | 0, i, k, h => by omega
  | q + 1, i, 0, _ => rfl
  | q + 1, i, k + 1, h => by
    rw [from']
    simp only [List.getElem?_cons_succ]
    rw [from_get q (i + 1) k (by omega)]
    congr 1
    omega
theorem from_len : ∀ (q i : Nat), (from' i q).length = q
  | 0, i => rfl
  | q + 1, i => by rw [from', List.length_cons, from_len q]
theorem from_mem : ∀ (q i j : Nat), j ∈ from' i q ↔ i ≤ j ∧ j < i + q
  | 0, i, j => by simp only [from', List.not_mem_nil, false_iff]; omega
  | q + 1, i, j => by rw [from', List.mem_cons, from_mem q]; omega
theorem from_nodup : ∀ (q i : Nat), (from' i q).Nodup
  | 0, i => List.nodup_nil
  | q + 1, i => List.nodup_cons.2 ⟨fun h => by rw [from_mem] at h; omega, from_nodup q _⟩
theorem lenAll : ∀ {l l' : List DV}, DleAll l l' → l.length = l'.length ∧ ∀ (i : Nat) c d, l[i]? = some c → l'[i]? = some d → dle c d
  | [], [], _ => ⟨rfl, fun i c d h _ => by simp at h⟩
  | [], _ :: _, h => h.elim
  | _ :: _, [], h => h.elim
  | x :: l, y :: l', h => by
    obtain ⟨h1, h2⟩ := lenAll h.2
    refine ⟨by simp [h1], fun i c d hc hd => ?_⟩
    cases i with
    | zero =>
      simp only [List.getElem?_cons_zero, Option.some.injEq] at hc hd
      subst hc; subst hd; exact h.1
    | succ i => exact h2 i c d (by simpa using hc) (by simpa using hd)
theorem pushed (h : Rep A0 w0 n os s a w) : ∀ m, ∃ os', Rep A0 w0 n os' ⟨s.env, s.loc ++ List.replicate m .dead⟩ a w ∧ (∀ i, i < os.length → os'[i]? = os[i]?) ∧ ∀ i, os.length ≤ i → i < os.length + m → os'[i]? = some (.nilFunc, .dead)
  | 0 => ⟨os, by simpa using h, fun _ _ => rfl, fun i h1 h2 => by omega⟩
  | m + 1 => by
    obtain ⟨os', h', g1, g2⟩ := pushed h m
    have hl : os'.length = os.length + m := by
      have := h'.len
      simp only [List.length_append, List.length_replicate, h.len] at this
      omega
    have := h'.push (x := .nilFunc) (ob := .dead) (grownBy.refl' w none) (by simp [blk]) trivial
    refine ⟨os' ++ [(.nilFunc, .dead)], ?_, fun i hi => ?_, fun i h1 h2 => ?_⟩
    · rw [List.replicate_succ', ← List.append_assoc]
      exact this
    · rw [List.getElem?_append_left (by omega)]
      exact g1 i hi
    · by_cases hi : i < os.length + m
      · rw [List.getElem?_append_left (by omega)]
        exact g2 i h1 hi
      · rw [List.getElem?_append_right (by omega)]
        have : i - os'.length = 0 := by omega
        rw [this]
        rfl
/-- a call that is handed objects: what it hands back, and the state behind it -/
theorem dcallM_ok {f : FuncId} {args : List DV} {vals : List Value} {K : DV → DS → Prop} (h : Rep A0 w0 n os s a w) (hl : vals.length = args.length) (hp : ∀ (i : Nat) v d, vals[i]? = some v → args[i]? = some d → RepV (avoid A0 os) os w v d) (hK : dcallM P f args s K) :
    (∀ (vs : Array Value) (w : World), (callFunc f vs).run P w = .ok (.enter f vs) w) ∧ Calls P f vals.toArray w fun e w' => ∃ v r os' s', e = .returned v ∧ Rep A0 w0 n os' s' a w' ∧ RepV (avoid A0 os') os' w' v r ∧ K r s' := by
  obtain ⟨pass, hK⟩ := hK
  obtain ⟨l, hK, hll, hlx⟩ := lendXA_ok (J := ownIx (ownsX pass args)) h vals args hl hp (fun e j he hj hn => ownsX_ix he hj hn) hK
  obtain ⟨os1, s1, h1, hK, hav, hkp⟩ := shutIn_ok _ h hK
  obtain ⟨L, args0, kept, L', d, hret, hck, hobj, hdle, hK⟩ := hK
  simp only [Bool.and_eq_true] at hck
  obtain ⟨⟨⟨⟨⟨hkept, hgh⟩, hnd⟩, hlt⟩, hba⟩, hbL⟩ := hck
  simp only [List.all_eq_true] at hlt
  have hlt : ∀ i ∈ pass, i < s1.loc.length := fun i hi => Nat.le_of_ble_eq_true (hlt i hi)
  obtain ⟨os2, h2, g1, g2⟩ := pushed h1 (L'.length - L.length)
  obtain ⟨hks, hLL, _⟩ := keptOk_get (k := 0) hkept
  obtain ⟨hpl, _⟩ := objsM_get hobj
  obtain ⟨hdl, hdp⟩ := lenAll hdle
  have hlen1 := h1.len
  have hlen2 := h2.len
  simp only [List.length_append, List.length_replicate] at hlen2
  generalize hnews : from' s1.loc.length (L'.length - L.length) = news at *
  have hobj2 : objsM (s1.loc ++ List.replicate (L'.length - L.length) .dead) (nth (pass ++ news)) pass L := by
    have gen : ∀ (p : List Nat) (q : List LObj), (∀ i ∈ p, i < s1.loc.length) → objsM s1.loc (nth (pass ++ news)) p q → objsM (s1.loc ++ List.replicate (L'.length - L.length) .dead) (nth (pass ++ news)) p q := by
      intro p
      induction p with
      | nil => intro q _ h; cases q <;> exact h
      | cons i p ih =>
        intro q hi h
        cases q with
        | nil => exact h
        | cons o q =>
          refine ⟨?_, ih q (fun i hm => hi i (by simp [hm])) h.2⟩
          have := h.1
          rw [lget_eq] at this ⊢
          rw [List.getElem?_append_left (hi i (by simp))]
          exact this
    exact gen pass L hlt hobj
  have core := callM_core (s := ⟨s1.env, s1.loc ++ List.replicate (L'.length - L.length) .dead⟩) (news := news) (pass := pass) h2 hret hkept hgh (by
      rw [List.nodup_append]
      refine ⟨nodupB_iff hnd, by rw [← hnews]; exact from_nodup _ _, fun i hi j hj e => ?_⟩
      subst e
      rw [← hnews, from_mem] at hj
      have := hlt i hi
      omega) (fun i hi => by have := hlt i hi; omega) (fun i hi => by
      rw [← hnews, from_mem] at hi
      exact ⟨_, g2 i (by omega) (by omega)⟩) (by rw [← hnews, from_len]; omega) hbL (by simpa using hba) hobj2 (vals := vals) (by rw [hll, hdl]; simp) (fun i v d hv hd => by
      have hil := (List.getElem?_eq_some_iff.1 hv).1
      have hli := List.getElem?_eq_getElem (l := l) (i := i) (by omega)
      have hx := (hlx i v _ hv hli).rep hav hkp (fun j hj hm => ownsX_out hm hj)
      have hd2 : (args0.map (mvT (nth (pass ++ news))))[i]? = some (mvT (nth (pass ++ news)) d) := by rw [List.getElem?_map, hd]; rfl
      have hx2 := hx.less (hdp i _ _ hli hd2)
      have ka : Keeps (avoid A0 os1) (avoidX A0 os2 []) w w := Keeps.less (fun b hb => by
        rcases hb with hb | ⟨q, y, o', hq, hdd, _, hbb⟩
        · exact .inl hb
        · by_cases hql : q < os1.length
          · rw [g1 q hql] at hq
            exact .inr ⟨q, y, o', hq, hdd, hbb⟩
          · have hq2 : q < os1.length + (L'.length - L.length) := by
              have := (List.getElem?_eq_some_iff.1 hq).1
              omega
            rw [g2 q (by omega) hq2] at hq
            cases hq
            exact absurd rfl hdd)
      refine hx2.keep ka (fun q y ob hq => ⟨ob, ?_, by cases ob <;> simp [kindIs]⟩)
      rw [g1 q (List.getElem?_eq_some_iff.1 hq).1]
      exact hq)
  refine ⟨hret.1, core.mono fun e w' he => ?_⟩
  obtain ⟨v, os', rfl, hr, hv⟩ := he
  exact ⟨v, _, os', _, rfl, hr, hv, hK⟩
end
end Go.Lift
