/- A data-level logic for the model: what a body does to data; its soundness (part LiftO). No conditions. -/
import Derived.Test.YtmfgjjnmfahcjaaLiftN
set_option linter.unusedSimpArgs false
set_option linter.unusedVariables false
namespace Go.Lift
open Go

/-! # Regions whose order is drawn: every order -/
section
variable {P : Program} {tt : TT} {A0 : Nat → Prop} {w0 : Home} {n : Nat} {os : Objs} {s s' : DS} {a : Act} {w : World} {ops : Array Oper} {E : Exit → Act → World → Prop}

abbrev allT : Nat → Bool := fun _ => true
theorem stN_cons {te : TE} {tes : List TE} : ∀ i, stN (te :: tes) s allT (i + 1) = stN tes (te.app s) allT i
  | 0 => rfl
  | i + 1 => by
    have ih : stN (te :: tes) s allT (i + 1) = stN tes (te.app s) allT i := stN_cons i
    rw [stN, ih]
    simp only [List.getElem?_cons_succ]
    rfl
theorem consK_iff : ∀ {l e : List (Nat × DV)} {K : List (Nat × DV) → Prop}, consK l e K ↔ K (l ++ e)
  | [], e, K => Iff.rfl
  | p :: r, e, K => consK_iff (l := r)
theorem appK_iff {te : TE} {K : DS → Prop} : te.appK s K ↔ K (te.app s) := by
  obtain ⟨puts, rd, wr, mv⟩ := te
  obtain ⟨e, l⟩ := s
  show consK puts e _ ↔ _
  rw [consK_iff]
  cases wr
  · exact Iff.rfl
  · exact forceL_iff
theorem mvK_ex : ∀ {m mvs : List (Nat × Nat)} {K : List (Nat × Nat) → Prop}, mvK mvs m K → ∃ mvs', K mvs'
  | [], mvs, K, h => ⟨mvs, h⟩
  | p :: r, mvs, K, h => mvK_ex (m := r) h
theorem drops_ok (hT : tabOk P tt = true) (h0 : (tinfo tt 0).size = 0) {K : List TE → List (Nat × Nat) → DS → Prop} : ∀ (l : List Oper) {idx : Nat} {acc : List TE} {mvs : List (Nat × Nat)} {s : DS}, l.all (dstOk n) = true → drops tt P ops.toList l idx acc mvs K s →
    ∃ tes mvs', tes.length = l.length ∧ K (acc ++ tes) mvs' (stN tes s allT l.length) ∧ ∀ (i : Nat) o te, l[i]? = some o → tes[i]? = some te → RunsW P A0 w0 n ops o te (stN tes s allT i) E
  | [], idx, acc, mvs, s, _, h => ⟨[], mvs, rfl, by simp only [List.append_nil]; exact h, fun i o te h1 _ => by simp at h1⟩
  | o :: r, idx, acc, mvs, s, hl, h => by
    simp only [List.all_cons, Bool.and_eq_true] at hl
    unfold drops at h
    obtain ⟨te, idx', h, hr⟩ := rop_ok (A0 := A0) (w0 := w0) (E := E) hT h0 (dstOk_lt hl.1) h
    obtain ⟨mvs1, h⟩ := mvK_ex (appK_iff.1 h)
    obtain ⟨tes, mvs', h1, h2, h3⟩ := drops_ok hT h0 r hl.2 h
    refine ⟨te :: tes, mvs', by simp [h1], ?_, fun i o' te' hi hte => ?_⟩
    · rw [List.length_cons, stN_cons]
      simpa using h2
    · cases i with
      | zero =>
        simp at hi hte
        subst hi; subst hte
        exact hr
      | succ i =>
        rw [stN_cons]
        exact h3 i o' te' (by simpa using hi) (by simpa using hte)

theorem Rep.congr (h : Rep A0 w0 n os s' a w) (hl : s.loc = s'.loc) (he : ∀ t, look s.env t = look s'.env t) : Rep A0 w0 n os s a w :=
  ⟨h.size, h.defers, h.gr, h.a0, hl.trans h.loc, fun t => by rw [he]; exact h.env t, h.obj, h.inj⟩
theorem lget_ext {l l' : List LObj} (hl : l.length = l'.length) (h : ∀ k, lget l k = lget l' k) : l = l' := by
  refine List.ext_getElem hl (fun i h1 h2 => ?_)
  have := h i
  rw [lget_eq, lget_eq, List.getElem?_eq_getElem h1, List.getElem?_eq_getElem h2] at this
  simpa using this

variable {tr : List TE} {s0 : DS} {N : Nat}
def Sof (listed : Array Bool) (j : Nat) : Bool := listed.getD j false
def Inv (A0 : Nat → Prop) (w0 : Home) (n : Nat) (tr : List TE) (s0 : DS) (N : Nat) (S : Nat → Bool) (a : Act) (w : World) : Prop :=
  ∃ os' s', Rep A0 w0 n os' s' a w ∧ (∀ t, look s'.env t = look (stN tr s0 S N).env t) ∧ (∀ k, lget s'.loc k = lget (stN tr s0 S N).loc k) ∧ s'.loc.length = s0.loc.length
theorem reach_in {S : Nat → Bool} (hdc : ∀ i o, S i = true → ops[i]? = some o → ∀ e ∈ o.after, Region.binds .any e = true → S e.on = true) {i j : Nat} (h : Reach ops i j) : S i = true → S j = true := by
  induction h with
  | edge ho he hb => exact fun hi => hdc _ _ hi ho _ he hb
  | trans _ _ ih1 ih2 => exact fun hi => ih2 (ih1 hi)
theorem reach_ready {S : Nat → Bool} (hdc : ∀ i o, S i = true → ops[i]? = some o → ∀ e ∈ o.after, Region.binds .any e = true → S e.on = true) {i j : Nat} (h : Reach ops i j) : (∀ o, ops[i]? = some o → ∀ e ∈ o.after, Region.binds .any e = true → S e.on = true) → S j = true := by
  induction h with
  | edge ho he hb => exact fun hi => hi _ ho _ he hb
  | trans _ h2 ih1 ih2 => exact fun hi => reach_in hdc h2 (ih1 hi)

theorem step_inv (hO : Ordered tr (looksOf ops) (Reach ops)) (hN : tr.length = ops.size) (hruns : ∀ (i : Nat) o te, ops[i]? = some o → tr[i]? = some te → RunsW P A0 w0 n ops o te (stN tr s0 allT i) E)
    {S : Nat → Bool} (hdc : ∀ i o, S i = true → ops[i]? = some o → ∀ e ∈ o.after, Region.binds .any e = true → S e.on = true) {i : Nat} {o : Oper} (ho : ops[i]? = some o) (hi : S i = false) (hr : ∀ e ∈ o.after, Region.binds .any e = true → S e.on = true)
    (h : Inv A0 w0 n tr s0 ops.size S a w) :
    if Region.wanted o (yielded ops a.tmps) then o.wp P a w (Inv A0 w0 n tr s0 ops.size fun j => S j || decide (j = i)) E else Inv A0 w0 n tr s0 ops.size (fun j => S j || decide (j = i)) (a.put o.dst undef) w := by
  obtain ⟨os', s', h1, h2, h3, h4⟩ := h
  have hiN := (Array.getElem?_eq_some_iff.1 ho).1
  have hte : tr[i]? = some (tr[i]'(by omega)) := List.getElem?_eq_getElem (by omega)
  generalize (tr[i]'(by omega)) = te at hte
  have hdc' : ∀ i j, S i = true → Reach ops i j → S j = true := fun i j hS hR => reach_in hdc hR hS
  have hr' : ∀ j, Reach ops i j → S j = true := fun j hR => reach_ready hdc hR (fun o' ho' => by rw [ho] at ho'; cases ho'; exact hr)
  have hlo : looksOf ops i = o.looksAt ops := by simp [looksOf, ho]
  have run := hruns i o te ho hte os' s' a w h1 (fun t ht => (h2 t).trans (find_slot hO hdc' hi hr' hiN (by rw [hlo]; exact ht))) (fun k hk => (h3 k).trans (find_obj hO hdc' hi hr' hiN hte hk)) (by rw [h4, stN_len])
  have fin : ∀ a' w', Nx A0 w0 n (fun s'' => s'' = te.app s') a' w' → Inv A0 w0 n tr s0 ops.size (fun j => S j || decide (j = i)) a' w' := by
    rintro a' w' ⟨os2, s2, hrep, rfl⟩
    have hc := app_congr (te := te) h2 h3 (by rw [h4, stN_len])
    exact ⟨os2, _, hrep, fun t => (hc.1 t).trans (next_slot hO hdc' hi hiN hte t).symm, fun k => (hc.2 k).trans (next_obj hO hdc' hi hiN hte k).symm, by rw [app_len, h4]⟩
  split
  · rename_i hw
    rw [if_pos hw] at run
    exact Oper.wp_mono fin run
  · rename_i hw
    rw [if_neg hw] at run
    exact fin _ _ run

theorem any_ok (hO : Ordered tr (looksOf ops) (Reach ops)) (hN : tr.length = ops.size) (hdn : edgesDown ops.toList 0 = true) (hruns : ∀ (i : Nat) o te, ops[i]? = some o → tr[i]? = some te → RunsW P A0 w0 n ops o te (stN tr s0 allT i) E)
    {K : DS → Prop} (hK : K (stN tr s0 allT ops.size)) (hE : ∀ a w, Nx A0 w0 n K a w → E .normal a w) :
    ∀ (fuel : Nat) (listed : Array Bool) (a : Act) (w : World), listed.size = ops.size → (∀ i o, Sof listed i = true → ops[i]? = some o → ∀ e ∈ o.after, Region.binds .any e = true → Sof listed e.on = true) →
      listed.toList.count false ≤ fuel → Inv A0 w0 n tr s0 ops.size (Sof listed) a w → wpAny P .any ops E fuel listed a w := by
  intro fuel
  have done : ∀ (listed : Array Bool) (a : Act) (w : World), listed.size = ops.size → Region.ready .any ops listed = [] → Inv A0 w0 n tr s0 ops.size (Sof listed) a w → E .normal a w := by
    intro listed a w hsz hr hinv
    have hall : ∀ i, i < ops.size → Sof listed i = true := by
      intro i
      induction i using Nat.strongRecOn with
      | _ i ih =>
        intro hi
        cases hS : Sof listed i with
        | true => rfl
        | false =>
          have : i ∈ Region.ready .any ops listed := by
            rw [mem_ready]
            refine ⟨?_, ops[i], Array.getElem?_eq_getElem hi, fun e he hb => ?_⟩
            · have hlt : i < listed.size := by omega
              simp only [Sof, Array.getD_eq_getD_getElem?, Array.getElem?_eq_getElem hlt, Option.getD_some] at hS ⊢
              exact hS
            · have := edges_get hdn (i := i) (o := ops[i]) (by simp [hi]) e he hb
              exact ih e.on (by omega) (by omega)
          rw [hr] at this
          cases this
    obtain ⟨os', s', h1, h2, h3, h4⟩ := hinv
    have hst : stN tr s0 (Sof listed) ops.size = stN tr s0 allT ops.size := stN_same _ (fun j hj => hall j hj)
    rw [hst] at h2 h3
    exact hE a w ⟨os', _, h1.congr (lget_ext (by rw [h4, stN_len]) (fun k => (h3 k).symm)) (fun t => (h2 t).symm), hK⟩
  induction fuel with
  | zero =>
    intro listed a w hsz hdc hcnt hinv
    have hr : Region.ready .any ops listed = [] := by
      rw [List.eq_nil_iff_forall_not_mem]
      intro i hi
      obtain ⟨h1, o, ho, _⟩ := mem_ready.1 hi
      have hlt : i < listed.size := by have := (Array.getElem?_eq_some_iff.1 ho).1; omega
      simp only [Array.getD_eq_getD_getElem?, Array.getElem?_eq_getElem hlt, Option.getD_some] at h1
      have : false ∈ listed.toList := by rw [← h1]; simp
      have := List.count_pos_iff.2 this
      omega
    exact ⟨hr, done listed a w hsz hr hinv⟩
  | succ fuel ih =>
    intro listed a w hsz hdc hcnt hinv
    refine ⟨fun hr => done listed a w hsz hr hinv, fun i hi => ?_⟩
    obtain ⟨h1, o, ho, hall⟩ := mem_ready.1 hi
    have hlt : i < listed.size := by have := (Array.getElem?_eq_some_iff.1 ho).1; omega
    have h1' : listed[i] = false := by simpa only [Array.getD_eq_getD_getElem?, Array.getElem?_eq_getElem hlt, Option.getD_some] using h1
    have hSi : Sof listed i = false := by simp only [Sof, Array.getD_eq_getD_getElem?, Array.getElem?_eq_getElem hlt, Option.getD_some, h1']
    have hS' : ∀ j, Sof (listed.setIfInBounds i true) j = (Sof listed j || decide (j = i)) := by
      intro j
      simp only [Sof, Array.getD_eq_getD_getElem?, Array.getElem?_setIfInBounds]
      by_cases e : i = j
      · subst e; simp [hlt]
      · have : j ≠ i := fun h => e h.symm
        simp [e, this]
    have hst := step_inv (P := P) (E := E) hO hN hruns hdc ho hSi hall hinv
    have next : ∀ a w, Inv A0 w0 n tr s0 ops.size (fun j => Sof listed j || decide (j = i)) a w → wpAny P .any ops E fuel (listed.setIfInBounds i true) a w := by
      intro a w hinv'
      refine ih _ a w (by simpa using hsz) (fun i' o' hi' ho' e he hb => ?_) ?_ ?_
      · rw [hS'] at hi' ⊢
        simp only [Bool.or_eq_true, decide_eq_true_eq] at hi' ⊢
        rcases hi' with hi' | rfl
        · exact .inl (hdc i' o' hi' ho' e he hb)
        · rw [ho] at ho'; cases ho'
          exact .inl (hall e he hb)
      · have hc := List.count_set (l := listed.toList) (i := i) (a := true) (b := false) (by simpa using hlt)
        have hpos : 0 < listed.toList.count false := List.count_pos_iff.2 (by rw [← h1']; simp)
        simp only [Array.toList_setIfInBounds]
        rw [hc, show (listed.toList[i]'(by simpa using hlt)) = false by simpa using h1']
        have e1 : (if (false == false) = true then 1 else 0 : Nat) = 1 := rfl
        have e2 : (if (true == false) = true then 1 else 0 : Nat) = 0 := rfl
        rw [e1, e2]
        omega
      · have : Sof (listed.setIfInBounds i true) = fun j => Sof listed j || decide (j = i) := funext hS'
        rw [this]
        exact hinv'
    unfold wpOp
    rw [ho]
    simp only
    split
    · rename_i hw
      rw [if_pos hw] at hst
      exact .inl (Oper.wp_mono next hst)
    · rename_i hw
      rw [if_neg hw] at hst
      exact next _ _ hst

/-! ## a row takes the place of one that is gone -/
theorem Imm.ren {A : Nat → Prop} {w : World} {x : Value} {d : DV} (i j : Nat) (h : Imm A w x d) : Imm A w x (ren0 i j d) ∧ Imm A w x (renT i j d) := by
  induction h with
  | v h => exact ⟨.v h, .v h⟩
  | lst xs hn hc hm hf hsz hA hb hone hcell hx _ => exact ⟨.lst xs hn hc hm hf hsz hA hb hone hcell hx, .lst xs hn hc hm hf hsz hA hb hone hcell hx⟩
  | nil => exact ⟨.nil, .nil⟩
  | nl => exact ⟨.nl, .nl⟩
  | agg hl hone h ih =>
    refine ⟨.agg hl hone h, .agg (by simpa using hl) hone (fun j v d hv hd => ?_)⟩
    rw [List.getElem?_map] at hd
    rename_i ds
    cases hj : ds[j]? with
    | none => rw [hj] at hd; cases hd
    | some e => rw [hj] at hd; simp at hd; subst hd; exact (ih j v e hv hj).1
  | tup hl h _ => exact ⟨.tup hl h, .tup hl h⟩
  | ip xs hA hb hone hcell hx _ => exact ⟨.ip xs hA hb hone hcell hx, .ip xs hA hb hone hcell hx⟩
  | fn hl h _ => exact ⟨.fn hl h, .fn hl h⟩
  | wh _ h0 ih => exact ⟨.wh (fun hb => (ih hb).1) h0, .wh (fun hb => (ih hb).2) h0⟩
  | junk => exact ⟨.junk, .junk⟩
theorem norm1_ok {p : Nat × Nat} (h : Rep A0 w0 n os s a w) : ∃ os', Rep A0 w0 n os' (norm1 s p) a w := by
  obtain ⟨i, j⟩ := p
  unfold norm1
  split
  · rename_i h1 h2
    simp only at h1 h2
    rw [h.loc] at h1 h2
    obtain ⟨x, e, sz, es, hi⟩ := isRow_os h1
    have hj : ∃ y, os[j]? = some (y, .gone) := by
      rw [lget_eq, List.getElem?_map] at h2
      cases hj : os[j]? with
      | none => rw [hj] at h2; simp [isGone] at h2
      | some p =>
        obtain ⟨y, o⟩ := p
        rw [hj] at h2
        cases o <;> simp [isGone] at h2
        exact ⟨y, rfl⟩
    obtain ⟨y, hj⟩ := hj
    have hij : i ≠ j := fun e => by subst e; rw [hi] at hj; cases hj
    have hli := (List.getElem?_eq_some_iff.1 hi).1
    have hlj := (List.getElem?_eq_some_iff.1 hj).1
    have hrow : lget s.loc i = .row e sz es := by rw [h.loc, lget_eq, List.getElem?_map, hi]; rfl
    rw [hrow]
    generalize hos : (((os.map fun p => (p.1, mapO (ren0 i j) p.2)).set j (x, .row e sz es)).set i (.nilFunc, .dead)) = os'
    have hoi : os'[i]? = some (.nilFunc, .dead) := by rw [← hos, List.getElem?_set_self (by simpa using hli)]
    have hoj : os'[j]? = some (x, .row e sz es) := by rw [← hos, List.getElem?_set_ne hij, List.getElem?_set_self (by simpa using hlj)]
    have hoth : ∀ {k : Nat}, k ≠ i → k ≠ j → os'[k]? = (os[k]?).map fun p => (p.1, mapO (ren0 i j) p.2) := by
      intro k h1 h2
      rw [← hos, List.getElem?_set_ne (fun e => h1 e.symm), List.getElem?_set_ne (fun e => h2 e.symm), List.getElem?_map]
    have hget : ∀ {k : Nat} {z : Value} {o' : LObj}, os'[k]? = some (z, o') → (k = j ∧ z = x ∧ o' = .row e sz es) ∨ (k = i ∧ z = .nilFunc ∧ o' = .dead) ∨ (k ≠ i ∧ k ≠ j ∧ ∃ o1, os[k]? = some (z, o1) ∧ o' = mapO (ren0 i j) o1) := by
      intro k z o' hk
      by_cases e1 : k = j
      · subst e1; rw [hoj] at hk; cases hk; exact .inl ⟨rfl, rfl, rfl⟩
      · by_cases e2 : k = i
        · subst e2; rw [hoi] at hk; cases hk; exact .inr (.inl ⟨rfl, rfl, rfl⟩)
        · rw [hoth e2 e1] at hk
          cases hk1 : os[k]? with
          | none => rw [hk1] at hk; cases hk
          | some p => rw [hk1] at hk; cases hk; exact .inr (.inr ⟨e2, e1, _, rfl, rfl⟩)
    have hdd : ∀ o1 : LObj, mapO (ren0 i j) o1 ≠ .dead ↔ o1 ≠ .dead := by intro o1; cases o1 <;> simp [mapO]
    have hav : ∀ b, avoid A0 os' b → avoid A0 os b := by
      rintro b (hb | ⟨k, z, o', hk, hd, hbb⟩)
      · exact .inl hb
      · rcases hget hk with ⟨rfl, rfl, rfl⟩ | ⟨rfl, rfl, rfl⟩ | ⟨_, _, o1, hk1, rfl⟩
        · exact .inr ⟨i, _, _, hi, by simp, hbb⟩
        · exact absurd rfl hd
        · exact .inr ⟨k, _, _, hk1, (hdd _).1 hd, hbb⟩
    have kp : Keeps (avoid A0 os) (avoid A0 os') w w := Keeps.less hav
    have bf : ∀ {p q : Nat}, p ≠ q → Nat.beq p q = false := by
      intro p q hne
      cases hb : Nat.beq p q
      · rfl
      · exact absurd (Nat.eq_of_beq_eq_true hb) hne
    have hmap : ∀ {z : Value} {d : DV}, RepV (avoid A0 os) os w z d → (z.oneCell' = true → RepV (avoid A0 os') os' w z (ren0 i j d)) ∧ RepV (avoid A0 os') os' w z (renT i j d) := by
      intro z d hz
      induction hz with
      | imm h => exact ⟨fun _ => .imm ((h.keep kp).ren i j).1, .imm ((h.keep kp).ren i j).2⟩
      | @lp k off g t cs hk =>
        have hne1 : k ≠ i := fun e => by subst e; rw [hi] at hk; cases hk
        have hne2 : k ≠ j := fun e => by subst e; rw [hj] at hk; cases hk
        have : os'[k]? = some (.pointer (some ⟨g, 0, none⟩), .cells t (cs.map (ren0 i j))) := by rw [hoth hne1 hne2, hk]; rfl
        exact ⟨fun _ => .lp this, .lp this⟩
      | @ap k off g t cs hk =>
        have hne1 : k ≠ i := fun e => by subst e; rw [hi] at hk; cases hk
        have hne2 : k ≠ j := fun e => by subst e; rw [hj] at hk; cases hk
        have : os'[k]? = some (.pointer (some ⟨g, 0, none⟩), .cells t (cs.map (ren0 i j))) := by rw [hoth hne1 hne2, hk]; rfl
        exact ⟨fun _ => .ap this, .ap this⟩
      | @rp k kk off g m c e2 sz2 es2 hk =>
        have hne2 : k ≠ j := fun e => by subst e; rw [hj] at hk; cases hk
        have key : RepV (avoid A0 os') os' w (.pointer (some ⟨g, kk * sz2 + off, none⟩)) (ren0 i j (.rp k kk off)) := by
          by_cases hne1 : k = i
          · subst hne1
            rw [hi] at hk
            cases hk
            simp only [ren0, Nat.beq_refl]
            exact .rp hoj
          · simp only [ren0, bf hne1, bf hne2]
            exact .rp (e := e2) (sz := sz2) (es := es2) (n := m) (c := c) (by rw [hoth hne1 hne2, hk]; rfl)
        exact ⟨fun _ => key, key⟩
      | @own k z e2 sz2 es2 hk h1 =>
        have hne2 : k ≠ j := fun e => by subst e; rw [hj] at hk; cases hk
        have key : RepV (avoid A0 os') os' w z (ren0 i j (.own k)) := by
          by_cases hne1 : k = i
          · subst hne1
            rw [hi] at hk
            cases hk
            simp only [ren0, Nat.beq_refl]
            exact .own hoj h1
          · simp only [ren0, bf hne1, bf hne2]
            exact .own (e := e2) (sz := sz2) (es := es2) (by rw [hoth hne1 hne2, hk]; rfl) h1
        exact ⟨fun _ => key, key⟩
      | @stale k z y2 d hk hd h1 =>
        have hne1 : k ≠ i := fun e => by subst e; rw [hi] at hk; cases hk
        by_cases hne2 : k = j
        · rcases hd with rfl | ⟨_, _, rfl⟩
          · have e1 : ren0 i j (.own k) = .junk := by simp only [ren0, bf hne1, hne2, Nat.beq_refl, bf (fun e => hij (Eq.symm e))]
            have e2 : renT i j (.own k) = .junk := e1
            rw [e1, e2]; exact ⟨fun _ => .imm .junk, .imm .junk⟩
          · rename_i kk off
            have e1 : ren0 i j (.rp k kk off) = .junk := by simp only [ren0, bf hne1, hne2, Nat.beq_refl, bf (fun e => hij (Eq.symm e))]
            have e2 : renT i j (.rp k kk off) = .junk := e1
            rw [e1, e2]; exact ⟨fun _ => .imm .junk, .imm .junk⟩
        · have hk' : os'[k]? = some (y2, .gone) := by rw [hoth hne1 hne2, hk]; rfl
          rcases hd with rfl | ⟨kk, off, rfl⟩
          · have e1 : ren0 i j (.own k) = .own k := by simp only [ren0, bf hne1, bf hne2]
            have e2 : renT i j (.own k) = .own k := e1
            rw [e1, e2]; exact ⟨fun _ => .stale hk' (.inl rfl) h1, .stale hk' (.inl rfl) h1⟩
          · have e1 : ren0 i j (.rp k kk off) = .rp k kk off := by simp only [ren0, bf hne1, bf hne2]
            have e2 : renT i j (.rp k kk off) = .rp k kk off := e1
            rw [e1, e2]; exact ⟨fun _ => .stale hk' (.inr ⟨_, _, rfl⟩) h1, .stale hk' (.inr ⟨_, _, rfl⟩) h1⟩
      | @agg vs ds hl hone _ ih =>
        refine ⟨fun h => by simp [Value.oneCell'] at h, .agg (by simpa using hl) hone (fun k v d hv hd => ?_)⟩
        rw [List.getElem?_map] at hd
        cases hk : ds[k]? with
        | none => rw [hk] at hd; cases hd
        | some e => rw [hk] at hd; simp at hd; subst hd; exact (ih k v e hv hk).1 (hone v (List.mem_of_getElem? hv))
      | @fn f vs ds hl hcap _ ih =>
        have key : RepV (avoid A0 os') os' w (.func f #[] vs.toArray) (.fn f ds) := .fn hl hcap (fun k v d hv hd => by
          have hc := hcap d (List.mem_of_getElem? hd)
          have h2 := (ih k v d hv hd).2
          cases d <;> simp [isCap, plainCap] at hc <;> exact h2)
        exact ⟨fun _ => key, key⟩
      | wh _ h0 ih => exact ⟨fun h1 => .wh (fun hb => (ih hb).1 h1) h0, .wh (fun hb => (ih hb).2) h0⟩
    refine ⟨os', h.size, h.defers, h.gr, h.a0, ?_, fun t => ?_, fun k z o' hk => ?_, fun k1 k2 z o1 z2 o2 b h1 h2 d1 d2 b1 b2 => ?_⟩
    · rw [← hos, lset_eq, lset_eq, mapL_eq, h.loc, List.map_set, List.map_set, List.map_map, List.map_map]
      rfl
    · show RepV _ _ _ _ (look (mapE (renT i j) s.env) t)
      rw [look_mapE _ (by rfl)]
      exact (hmap (h.env t)).2
    · rcases hget hk with ⟨rfl, rfl, rfl⟩ | ⟨rfl, rfl, rfl⟩ | ⟨n1, n2, o1, hk1, rfl⟩
      · have := h.obj _ _ _ hi
        obtain ⟨hmine, xs, hown, hsz, hrl, hone, hr⟩ := this
        exact ⟨hmine, xs, hown, hsz, hrl, hone, fun k' j' r d h1 h2 => by
          obtain ⟨v, hv, hi⟩ := hr k' j' r d h1 h2
          exact ⟨v, hv, hi.keep kp⟩⟩
      · exact trivial
      · have ho1 := h.obj _ _ _ hk1
        cases o1 with
        | dead => exact trivial
        | gone => exact ho1
        | gh ds =>
          obtain ⟨e1, e2, e3, e4⟩ := ho1
          refine ⟨e1, by simpa using e2, e3, fun i' v d hv hd => ?_⟩
          rw [List.getElem?_map] at hd
          cases hj : ds[i']? with
          | none => rw [hj] at hd; cases hd
          | some d' =>
            rw [hj] at hd
            simp at hd
            subst hd
            exact (hmap (e4 i' v d' hv hj)).1 (e3 v (List.mem_of_getElem? hv))
        | cells t cs =>
          obtain ⟨g, arr, rfl, hB, hh, hs, hone, hrr⟩ := ho1
          refine ⟨g, arr, rfl, hB, hh, by simpa using hs, hone, fun j' v d hv hd => ?_⟩
          rw [List.getElem?_map] at hd
          cases hj : cs[j']? with
          | none => rw [hj] at hd; cases hd
          | some d' =>
            rw [hj] at hd
            simp at hd
            subst hd
            refine (hmap (hrr j' v d' hv hj)).1 (hone v ?_)
            rw [← Array.getElem?_toList] at hv
            exact List.mem_of_getElem? hv
        | row e2 sz2 es2 =>
          obtain ⟨hmine, xs, hown, hsz, hrl, hone, hr⟩ := ho1
          exact ⟨hmine, xs, hown, hsz, hrl, hone, fun k' j' r d h1 h2 => by
            obtain ⟨v, hv, hi⟩ := hr k' j' r d h1 h2
            exact ⟨v, hv, hi.keep kp⟩⟩
    · have one : ∀ {k z o'}, os'[k]? = some (z, o') → o' ≠ .dead → ∃ k0 o0, os[k0]? = some (z, o0) ∧ o0 ≠ .dead ∧ k0 ≠ j ∧ ((k = j ∧ k0 = i) ∨ (k ≠ j ∧ k0 ≠ i ∧ k0 = k)) := by
        intro k z o' hk hd
        rcases hget hk with ⟨rfl, rfl, rfl⟩ | ⟨rfl, rfl, rfl⟩ | ⟨n1, n2, o1, hk1, rfl⟩
        · exact ⟨i, _, hi, by simp, hij, .inl ⟨rfl, rfl⟩⟩
        · exact absurd rfl hd
        · exact ⟨k, _, hk1, (hdd _).1 hd, n2, .inr ⟨n2, n1, rfl⟩⟩
      obtain ⟨p1, q1, r1, s1, _, t1⟩ := one h1 d1
      obtain ⟨p2, q2, r2, s2, _, t2⟩ := one h2 d2
      have := h.inj p1 p2 _ _ _ _ b r1 r2 s1 s2 b1 b2
      omega
  · exact ⟨os, h⟩
theorem normR_ok : ∀ (l : List (Nat × Nat)) {os : Objs} {s : DS}, Rep A0 w0 n os s a w → ∃ os', Rep A0 w0 n os' (normR l s) a w
  | [], os, s, h => ⟨os, h⟩
  | p :: r, os, s, h => by
    obtain ⟨os1, h1⟩ := norm1_ok (p := p) h
    exact normR_ok r h1
theorem shutCuts_ok : ∀ (l : List Oper) {os : Objs} {s : DS} {K : DS → Prop}, Rep A0 w0 n os s a w → shutCuts l s K → ∃ os' s', Rep A0 w0 n os' s' a w ∧ K s'
  | [], os, s, K, h, hK => ⟨os, s, h, hK⟩
  | o :: r, os, s, K, h, hK => by
    unfold shutCuts at hK
    split at hK
    · split at hK
      · obtain ⟨os', s', h', hK, _, _⟩ := shutIn_ok _ h hK
        exact shutCuts_ok r h' hK
      · exact shutCuts_ok r h hK
    · exact shutCuts_ok r h hK
theorem drawK_ok (hm : P.follows .mixedOrders = true) (hT : tabOk P tt = true) (h0 : (tinfo tt 0).size = 0) {id : Nat} {K : DS → Prop} (hE : ∀ a w, Nx A0 w0 n K a w → E .normal a w) (hl : ops.toList.all (dstOk n) = true) (h : Rep A0 w0 n os s a w) (hK : drawK tt P ops K s) :
    (Code.region id ops true).wp P E a w := by
  unfold drawK at hK
  obtain ⟨os, s, h, hK⟩ := shutCuts_ok _ h hK
  unfold drawK0 at hK
  have hK := forceL_iff.1 hK
  obtain ⟨tes, mvs, hlen, ⟨hreg, hK0⟩, hruns⟩ := drops_ok (A0 := A0) (w0 := w0) (E := E) hT h0 ops.toList hl hK
  have hK : K (normR mvs (stN tes ⟨s.env, s.loc ++ List.replicate (creators ops.toList) .dead⟩ allT ops.toList.length)) := by
    split at hK0
    · exact hK0
    · exact hK0
  rw [List.nil_append] at hreg
  have hlen : tes.length = ops.size := by simpa using hlen
  have hK : K (normR mvs (stN tes ⟨s.env, s.loc ++ List.replicate (creators ops.toList) .dead⟩ allT ops.size)) := by simpa using hK
  have hE : ∀ a w, Nx A0 w0 n (fun s' => K (normR mvs s')) a w → E .normal a w := fun a w ⟨os, s, h, hK⟩ => by
    obtain ⟨os', h'⟩ := normR_ok mvs h
    exact hE a w ⟨os', _, h', hK⟩
  refine wp_region_any hm ?_
  have hg : w.grownBy { w with drawn := w.drawn + 1 } none := ⟨rfl, rfl, rfl, Nat.le_refl _, fun _ _ _ => rfl⟩
  obtain ⟨os', h'⟩ := push_dead (h.grown hg) (creators ops.toList)
  have hdn : edgesDown ops.toList 0 = true := by simp only [regOk, Bool.and_eq_true] at hreg; exact hreg.1
  have hS : Sof (Array.replicate ops.size false) = fun _ => false := by
    funext j
    simp only [Sof, Array.getD_eq_getD_getElem?, Array.getElem?_replicate]
    split <;> rfl
  refine any_ok (ordered_of hlen hreg) hlen hdn (fun i o te ho hte => hruns i o te (by simpa using ho) hte) hK hE _ _ _ _ (by simp) (fun i o hi _ => by rw [hS] at hi; cases hi) (by simp) ?_
  rw [hS]
  have h00 : stN tes (⟨s.env, s.loc ++ List.replicate (creators ops.toList) .dead⟩ : DS) (fun _ => false) ops.size = ⟨s.env, s.loc ++ List.replicate (creators ops.toList) .dead⟩ := stN_below (m := 0) ops.size (Nat.zero_le _) (fun _ _ _ => rfl)
  exact ⟨os', _, h', fun t => by rw [h00], fun k => by rw [h00], rfl⟩
end
end Go.Lift
