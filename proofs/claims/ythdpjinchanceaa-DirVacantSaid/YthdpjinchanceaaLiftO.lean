/- A data-level logic for the model: what a body does to data; its soundness (part LiftO). No conditions. -/
import Derived.Test.YthdpjinchanceaaLiftN
set_option linter.unusedSimpArgs false
set_option linter.unusedVariables false
namespace Go.Lift
open Go

/-! # Regions whose order is drawn: every order -/
section
variable {P : Program} {tt : TT} {A0 : Nat → Prop} {w0 : World} {n : Nat} {os : Objs} {s s' : DS} {a : Act} {w : World} {ops : Array Oper} {E : Exit → Act → World → Prop}

abbrev allT : Nat → Bool := fun _ => true
theorem stN_cons {te : TE} {tes : List TE} : ∀ i, stN (te :: tes) s allT (i + 1) = stN tes (te.app s) allT i
  | 0 => rfl
  | i + 1 => by
    have ih : stN (te :: tes) s allT (i + 1) = stN tes (te.app s) allT i := stN_cons i
    rw [stN, ih]
    simp only [List.getElem?_cons_succ]
    rfl
theorem drops_ok (hT : tabOk P tt = true) (h0 : (tinfo tt 0).size = 0) {K : List TE → DS → Prop} : ∀ (l : List Oper) {idx : Nat} {acc : List TE} {s : DS}, l.all (dstOk n) = true → drops tt P ops.toList l idx acc K s →
    ∃ tes, tes.length = l.length ∧ K (acc ++ tes) (stN tes s allT l.length) ∧ ∀ (i : Nat) o te, l[i]? = some o → tes[i]? = some te → RunsW P A0 w0 n ops o te (stN tes s allT i) E
  | [], idx, acc, s, _, h => ⟨[], rfl, by simp only [List.append_nil]; exact h, fun i o te h1 _ => by simp at h1⟩
  | o :: r, idx, acc, s, hl, h => by
    simp only [List.all_cons, Bool.and_eq_true] at hl
    unfold drops at h
    obtain ⟨te, idx', h, hr⟩ := rop_ok (A0 := A0) (w0 := w0) (E := E) hT h0 (dstOk_lt hl.1) h
    obtain ⟨tes, h1, h2, h3⟩ := drops_ok hT h0 r hl.2 h
    refine ⟨te :: tes, by simp [h1], ?_, fun i o' te' hi hte => ?_⟩
    · rw [List.length_cons, stN_cons]
      simpa using h2
    · cases i with
      | zero =>
        simp at hi hte
        subst hi; subst hte
        exact hr
      | succ i =>
        rw [stN_cons]
        exact h3 i o' te' (by simpa using hi) (by simpa using hte)

theorem Rep.congr (h : Rep A0 w0 n os s' a w) (hl : s.loc = s'.loc) (he : ∀ t, look s.env t = look s'.env t) : Rep A0 w0 n os s a w :=
  ⟨h.size, h.defers, h.gr, h.a0, hl.trans h.loc, fun t => by rw [he]; exact h.env t, h.obj, h.inj⟩
theorem lget_ext {l l' : List LObj} (hl : l.length = l'.length) (h : ∀ k, lget l k = lget l' k) : l = l' := by
  refine List.ext_getElem hl (fun i h1 h2 => ?_)
  have := h i
  rw [lget_eq, lget_eq, List.getElem?_eq_getElem h1, List.getElem?_eq_getElem h2] at this
  simpa using this

variable {tr : List TE} {s0 : DS} {N : Nat}
def Sof (listed : Array Bool) (j : Nat) : Bool := listed.getD j false
def Inv (A0 : Nat → Prop) (w0 : World) (n : Nat) (tr : List TE) (s0 : DS) (N : Nat) (S : Nat → Bool) (a : Act) (w : World) : Prop :=
  ∃ os' s', Rep A0 w0 n os' s' a w ∧ (∀ t, look s'.env t = look (stN tr s0 S N).env t) ∧ (∀ k, lget s'.loc k = lget (stN tr s0 S N).loc k) ∧ s'.loc.length = s0.loc.length
theorem reach_in {S : Nat → Bool} (hdc : ∀ i o, S i = true → ops[i]? = some o → ∀ e ∈ o.after, Region.binds .any e = true → S e.on = true) {i j : Nat} (h : Reach ops i j) : S i = true → S j = true := by
  induction h with
  | edge ho he hb => exact fun hi => hdc _ _ hi ho _ he hb
  | trans _ _ ih1 ih2 => exact fun hi => ih2 (ih1 hi)
theorem reach_ready {S : Nat → Bool} (hdc : ∀ i o, S i = true → ops[i]? = some o → ∀ e ∈ o.after, Region.binds .any e = true → S e.on = true) {i j : Nat} (h : Reach ops i j) : (∀ o, ops[i]? = some o → ∀ e ∈ o.after, Region.binds .any e = true → S e.on = true) → S j = true := by
  induction h with
  | edge ho he hb => exact fun hi => hi _ ho _ he hb
  | trans _ h2 ih1 ih2 => exact fun hi => reach_in hdc h2 (ih1 hi)

theorem step_inv (hO : Ordered tr (looksOf ops) (Reach ops)) (hN : tr.length = ops.size) (hruns : ∀ (i : Nat) o te, ops[i]? = some o → tr[i]? = some te → RunsW P A0 w0 n ops o te (stN tr s0 allT i) E)
    {S : Nat → Bool} (hdc : ∀ i o, S i = true → ops[i]? = some o → ∀ e ∈ o.after, Region.binds .any e = true → S e.on = true) {i : Nat} {o : Oper} (ho : ops[i]? = some o) (hi : S i = false) (hr : ∀ e ∈ o.after, Region.binds .any e = true → S e.on = true)
    (h : Inv A0 w0 n tr s0 ops.size S a w) :
    if Region.wanted o (yielded ops a.tmps) then o.wp P a w (Inv A0 w0 n tr s0 ops.size fun j => S j || decide (j = i)) E else Inv A0 w0 n tr s0 ops.size (fun j => S j || decide (j = i)) (a.put o.dst undef) w := by
  obtain ⟨os', s', h1, h2, h3, h4⟩ := h
  have hiN := (Array.getElem?_eq_some_iff.1 ho).1
  have hte : tr[i]? = some (tr[i]'(by omega)) := List.getElem?_eq_getElem (by omega)
  generalize (tr[i]'(by omega)) = te at hte
  have hdc' : ∀ i j, S i = true → Reach ops i j → S j = true := fun i j hS hR => reach_in hdc hR hS
  have hr' : ∀ j, Reach ops i j → S j = true := fun j hR => reach_ready hdc hR (fun o' ho' => by rw [ho] at ho'; cases ho'; exact hr)
  have hlo : looksOf ops i = o.looksAt ops := by simp [looksOf, ho]
  have run := hruns i o te ho hte os' s' a w h1 (fun t ht => (h2 t).trans (find_slot hO hdc' hi hr' hiN (by rw [hlo]; exact ht))) (fun k hk => (h3 k).trans (find_obj hO hdc' hi hr' hiN hte hk)) (by rw [h4, stN_len])
  have fin : ∀ a' w', Nx A0 w0 n (fun s'' => s'' = te.app s') a' w' → Inv A0 w0 n tr s0 ops.size (fun j => S j || decide (j = i)) a' w' := by
    rintro a' w' ⟨os2, s2, hrep, rfl⟩
    have hc := app_congr (te := te) h2 h3 (by rw [h4, stN_len])
    exact ⟨os2, _, hrep, fun t => (hc.1 t).trans (next_slot hO hdc' hi hiN hte t).symm, fun k => (hc.2 k).trans (next_obj hO hdc' hi hiN hte k).symm, by rw [app_len, h4]⟩
  split
  · rename_i hw
    rw [if_pos hw] at run
    exact Oper.wp_mono fin run
  · rename_i hw
    rw [if_neg hw] at run
    exact fin _ _ run

theorem any_ok (hO : Ordered tr (looksOf ops) (Reach ops)) (hN : tr.length = ops.size) (hdn : edgesDown ops.toList 0 = true) (hruns : ∀ (i : Nat) o te, ops[i]? = some o → tr[i]? = some te → RunsW P A0 w0 n ops o te (stN tr s0 allT i) E)
    {K : DS → Prop} (hK : K (stN tr s0 allT ops.size)) (hE : ∀ a w, Nx A0 w0 n K a w → E .normal a w) :
    ∀ (fuel : Nat) (listed : Array Bool) (a : Act) (w : World), listed.size = ops.size → (∀ i o, Sof listed i = true → ops[i]? = some o → ∀ e ∈ o.after, Region.binds .any e = true → Sof listed e.on = true) →
      listed.toList.count false ≤ fuel → Inv A0 w0 n tr s0 ops.size (Sof listed) a w → wpAny P .any ops E fuel listed a w := by
  intro fuel
  have done : ∀ (listed : Array Bool) (a : Act) (w : World), listed.size = ops.size → Region.ready .any ops listed = [] → Inv A0 w0 n tr s0 ops.size (Sof listed) a w → E .normal a w := by
    intro listed a w hsz hr hinv
    have hall : ∀ i, i < ops.size → Sof listed i = true := by
      intro i
      induction i using Nat.strongRecOn with
      | _ i ih =>
        intro hi
        cases hS : Sof listed i with
        | true => rfl
        | false =>
          have : i ∈ Region.ready .any ops listed := by
            rw [mem_ready]
            refine ⟨?_, ops[i], Array.getElem?_eq_getElem hi, fun e he hb => ?_⟩
            · have hlt : i < listed.size := by omega
              simp only [Sof, Array.getD_eq_getD_getElem?, Array.getElem?_eq_getElem hlt, Option.getD_some] at hS ⊢
              exact hS
            · have := edges_get hdn (i := i) (o := ops[i]) (by simp [hi]) e he hb
              exact ih e.on (by omega) (by omega)
          rw [hr] at this
          cases this
    obtain ⟨os', s', h1, h2, h3, h4⟩ := hinv
    have hst : stN tr s0 (Sof listed) ops.size = stN tr s0 allT ops.size := stN_same _ (fun j hj => hall j hj)
    rw [hst] at h2 h3
    exact hE a w ⟨os', _, h1.congr (lget_ext (by rw [h4, stN_len]) (fun k => (h3 k).symm)) (fun t => (h2 t).symm), hK⟩
  induction fuel with
  | zero =>
    intro listed a w hsz hdc hcnt hinv
    have hr : Region.ready .any ops listed = [] := by
      rw [List.eq_nil_iff_forall_not_mem]
      intro i hi
      obtain ⟨h1, o, ho, _⟩ := mem_ready.1 hi
      have hlt : i < listed.size := by have := (Array.getElem?_eq_some_iff.1 ho).1; omega
      simp only [Array.getD_eq_getD_getElem?, Array.getElem?_eq_getElem hlt, Option.getD_some] at h1
      have : false ∈ listed.toList := by rw [← h1]; simp
      have := List.count_pos_iff.2 this
      omega
    exact ⟨hr, done listed a w hsz hr hinv⟩
  | succ fuel ih =>
    intro listed a w hsz hdc hcnt hinv
    refine ⟨fun hr => done listed a w hsz hr hinv, fun i hi => ?_⟩
    obtain ⟨h1, o, ho, hall⟩ := mem_ready.1 hi
    have hlt : i < listed.size := by have := (Array.getElem?_eq_some_iff.1 ho).1; omega
    have h1' : listed[i] = false := by simpa only [Array.getD_eq_getD_getElem?, Array.getElem?_eq_getElem hlt, Option.getD_some] using h1
    have hSi : Sof listed i = false := by simp only [Sof, Array.getD_eq_getD_getElem?, Array.getElem?_eq_getElem hlt, Option.getD_some, h1']
    have hS' : ∀ j, Sof (listed.setIfInBounds i true) j = (Sof listed j || decide (j = i)) := by
      intro j
      simp only [Sof, Array.getD_eq_getD_getElem?, Array.getElem?_setIfInBounds]
      by_cases e : i = j
      · subst e; simp [hlt]
      · have : j ≠ i := fun h => e h.symm
        simp [e, this]
    have hst := step_inv (P := P) (E := E) hO hN hruns hdc ho hSi hall hinv
    have next : ∀ a w, Inv A0 w0 n tr s0 ops.size (fun j => Sof listed j || decide (j = i)) a w → wpAny P .any ops E fuel (listed.setIfInBounds i true) a w := by
      intro a w hinv'
      refine ih _ a w (by simpa using hsz) (fun i' o' hi' ho' e he hb => ?_) ?_ ?_
      · rw [hS'] at hi' ⊢
        simp only [Bool.or_eq_true, decide_eq_true_eq] at hi' ⊢
        rcases hi' with hi' | rfl
        · exact .inl (hdc i' o' hi' ho' e he hb)
        · rw [ho] at ho'; cases ho'
          exact .inl (hall e he hb)
      · have hc := List.count_set (l := listed.toList) (i := i) (a := true) (b := false) (by simpa using hlt)
        have hpos : 0 < listed.toList.count false := List.count_pos_iff.2 (by rw [← h1']; simp)
        simp only [Array.toList_setIfInBounds]
        rw [hc, show (listed.toList[i]'(by simpa using hlt)) = false by simpa using h1']
        have e1 : (if (false == false) = true then 1 else 0 : Nat) = 1 := rfl
        have e2 : (if (true == false) = true then 1 else 0 : Nat) = 0 := rfl
        rw [e1, e2]
        omega
      · have : Sof (listed.setIfInBounds i true) = fun j => Sof listed j || decide (j = i) := funext hS'
        rw [this]
        exact hinv'
    unfold wpOp
    rw [ho]
    simp only
    split
    · rename_i hw
      rw [if_pos hw] at hst
      exact .inl (Oper.wp_mono next hst)
    · rename_i hw
      rw [if_neg hw] at hst
      exact next _ _ hst

theorem push_dead (h : Rep A0 w0 n os s a w) : ∀ m, ∃ os', Rep A0 w0 n os' ⟨s.env, s.loc ++ List.replicate m .dead⟩ a w
  | 0 => ⟨os, by simpa using h⟩
  | m + 1 => by
    obtain ⟨os', h'⟩ := push_dead h m
    have := h'.push (x := .nilFunc) (ob := .dead) (grownBy.refl' w none) (by simp [blk]) trivial
    refine ⟨os' ++ [(.nilFunc, .dead)], ?_⟩
    rw [List.replicate_succ', ← List.append_assoc]
    exact this
theorem drawK_ok (hm : P.follows .mixedOrders = true) (hT : tabOk P tt = true) (h0 : (tinfo tt 0).size = 0) {id : Nat} {K : DS → Prop} (hE : ∀ a w, Nx A0 w0 n K a w → E .normal a w) (hl : ops.toList.all (dstOk n) = true) (h : Rep A0 w0 n os s a w) (hK : drawK tt P ops K s) :
    (Code.region id ops true).wp P E a w := by
  unfold drawK at hK
  obtain ⟨tes, hlen, ⟨hreg, hK⟩, hruns⟩ := drops_ok (A0 := A0) (w0 := w0) (E := E) hT h0 ops.toList hl hK
  rw [List.nil_append] at hreg
  have hlen : tes.length = ops.size := by simpa using hlen
  have hK : K (stN tes ⟨s.env, s.loc ++ List.replicate (creators ops.toList) .dead⟩ allT ops.size) := by simpa using hK
  refine wp_region_any hm ?_
  have hg : w.grownBy { w with drawn := w.drawn + 1 } none := ⟨rfl, rfl, rfl, Nat.le_refl _, fun _ _ _ => rfl⟩
  obtain ⟨os', h'⟩ := push_dead (h.grown hg) (creators ops.toList)
  have hdn : edgesDown ops.toList 0 = true := by simp only [regOk, Bool.and_eq_true] at hreg; exact hreg.1
  have hS : Sof (Array.replicate ops.size false) = fun _ => false := by
    funext j
    simp only [Sof, Array.getD_eq_getD_getElem?, Array.getElem?_replicate]
    split <;> rfl
  refine any_ok (ordered_of hlen hreg) hlen hdn (fun i o te ho hte => hruns i o te (by simpa using ho) hte) hK hE _ _ _ _ (by simp) (fun i o hi _ => by rw [hS] at hi; cases hi) (by simp) ?_
  rw [hS]
  have h00 : stN tes (⟨s.env, s.loc ++ List.replicate (creators ops.toList) .dead⟩ : DS) (fun _ => false) ops.size = ⟨s.env, s.loc ++ List.replicate (creators ops.toList) .dead⟩ := stN_below (m := 0) ops.size (Nat.zero_le _) (fun _ _ _ => rfl)
  exact ⟨os', _, h', fun t => by rw [h00], fun k => by rw [h00], rfl⟩
end
end Go.Lift
