/- A data-level logic for the model: what a body does to data; its soundness (part LiftG). No conditions. -/
import Derived.Test.YthdpjinchanceaaLiftF
set_option linter.unusedSimpArgs false
set_option linter.unusedVariables false
namespace Go.Lift
open Go

/-! # Rows, more: make, literals, copy, stores into a row, a row that becomes a list -/
section
variable {P : Program} {tt : TT} {A0 : Nat → Prop} {w0 : World} {n : Nat} {os : Objs} {s : DS} {a : Act} {w : World} {o : Oper} {K : DS → Prop} {A : Nat → Prop} {B : Nat}

theorem made_row {z : Array Value} {zero : List DV} {m N : Nat} (hz : CellsRep A os w z zero) (hzi : ∀ (i : Nat) v d, z[i]? = some v → zero[i]? = some d → Imm A w v d) (hpos : 0 < zero.length) (hm : m ≤ N) :
    RowRep A w ((madeCells z (N * zero.length)).toList.take (m * zero.length)) (List.replicate m zero) zero.length := by
  have hle : m * zero.length ≤ N * zero.length := Nat.mul_le_mul_right _ hm
  have hzs := hz.size
  have hg : ∀ q, q < N * zero.length → (madeCells z (N * zero.length))[q]? = some (z[q % z.size]!) := by
    intro q hq
    simp [madeCells, hq]
  have hzq : ∀ q, z[q % z.size]? = some (z[q % z.size]!) := by
    intro q
    have : q % z.size < z.size := Nat.mod_lt _ (by omega)
    simp [this]
  have hml : (madeCells z (N * zero.length)).toList.length = N * zero.length := (Array.length_toList (xs := madeCells z (N * zero.length))).trans (size_madeCells _ _)
  refine ⟨by rw [List.length_take, hml, List.length_replicate]; omega, fun r hr => by rw [(List.mem_replicate.1 hr).2], fun v hv => ?_, fun k j r d hk hj => ?_⟩
  · obtain ⟨q, hq, rfl⟩ := List.getElem_of_mem hv
    have h1 := List.getElem?_eq_getElem hq
    rw [List.getElem?_take] at h1
    split at h1
    · rw [Array.getElem?_toList, hg q (by omega)] at h1
      rw [← Option.some.inj h1]
      have := hzq q
      rw [← Array.getElem?_toList] at this
      exact hz.one _ (List.mem_of_getElem? this)
    · cases h1
  · have hkl : k < m := by have := (List.getElem?_eq_some_iff.1 hk).1; simpa using this
    have hr : r = zero := by rw [List.getElem?_replicate] at hk; split at hk <;> simp_all
    subst hr
    have hjl := (List.getElem?_eq_some_iff.1 hj).1
    have h1 : (k + 1) * r.length ≤ m * r.length := Nat.mul_le_mul_right _ (by omega)
    rw [Nat.add_mul, Nat.one_mul] at h1
    refine ⟨z[(k * r.length + j) % z.size]!, ?_, ?_⟩
    · rw [List.getElem?_take, if_pos (by omega), Array.getElem?_toList, hg _ (by omega)]
    · have hmod : (k * r.length + j) % z.size = j := by
        rw [hzs, Nat.mul_comm, Nat.mul_add_mod, Nat.mod_eq_of_lt hjl]
      have := hzq (k * r.length + j)
      rw [hmod] at this ⊢
      exact hzi j _ d this hj

theorem makeSlice_ok (hT : tabOk P tt = true) {t e : TypeId} {l c : Operand} {kl kc : IntKind} {m N : Nat} {Q : Exit → Act → World → Prop} (ho : o.op = .makeSlice t l c) (hk : (tinfo tt t).k = .slc e) (hs : (tinfo tt e).size ≠ 0)
    (h : Rep A0 w0 n os s a w) (hd : ∀ t, o.dst = some t → t < n) (hl : a.eval l = .int kl m) (hc : a.eval c = .int kc N) (hmN : m ≤ N) (hb : N * (tinfo tt e).bytes ≤ 140737488355328) (hM : N ≤ maxLen)
    (hK : putK ⟨s.env, s.loc ++ [.row e (tinfo tt e).size (List.replicate m (tinfo tt e).zero)]⟩ o.dst (.own s.loc.length) K) : o.wp P a w (Nx A0 w0 n K) Q := by
  obtain ⟨i, hi, hsz, hby, z, hz, hzo, hzl⟩ := tab_size hT hs
  have hu := tab_slc hT hk
  obtain ⟨h1, h2, h3⟩ := zOk_all (A := avoid A0 os) (w := w) hzo
  have hcr : CellsRep (avoid A0 os) os w z.cells (tinfo tt e).zero := ⟨by simpa using h1, h2, fun i v d hv hd => .imm (h3 i v d (by simpa using hv) hd)⟩
  have hM' : (N : Int) ≤ 9223372036854775807 := by simp only [maxLen] at hM; omega
  have hrun := run_make (P := P) w t e i z hu hi hz kl kc m N (by omega) (by omega) (by
    have : ((i.bytes * N : Nat) : Int) ≤ 281474976710656 := by rw [hby, Nat.mul_comm]; omega
    rwa [Int.natCast_mul] at this) hM'
  simp only [Int.toNat_natCast, hsz] at hrun
  have hpos := Nat.pos_of_ne_zero hs
  have hrow := made_row (N := N) (m := m) hcr (fun i v d hv hd => h3 i v d (by simpa using hv) hd) (by omega) hmN
  rw [hzl] at hrow
  have hlen : (List.replicate m (tinfo tt e).zero).length = m := by simp
  have hp := row_push (w' := w.alloc (.cells (madeCells z.cells (N * (tinfo tt e).size)) e)) (x := .slice (some ⟨w.heap.size, 0, none⟩) m N) (e := e) (sz := (tinfo tt e).size) h (World.grownBy_alloc w _ none) (fun b hb => by simp [blk] at hb; omega)
    (xs := (madeCells z.cells (N * (tinfo tt e).size)).toList.take (m * (tinfo tt e).size)) ⟨by rw [hrow.len], .inr ⟨w.heap.size, N, _, by rw [hlen], h.gr.size, heap_alloc_new w _, by rw [hlen]; exact hmN, hM, size_madeCells _ _, by rw [hlen]⟩⟩ hpos hrow
  refine wp_value (x := .slice (some ⟨w.heap.size, 0, none⟩) m N) (w' := w.alloc (.cells (madeCells z.cells (N * (tinfo tt e).size)) e)) ?_ (Nx.put hp hd (by rw [h.len]; exact .own last_obj rfl) hK)
  simp only [execOp, ho, hl, hc, Sem.run_bind, hrun, Result.andThen_ok, Sem.run_pure]

/-! ## a row becomes a list -/
theorem own_lst {A' : Nat → Prop} {x : Value} {e : TypeId} {sz : Nat} {es : List (List DV)} (h : ObjOk A os B w x (.row e sz es)) (hA : ∀ b, A' b → A b) (hx : ∀ b, blk x = some b → ¬ A' b) : Imm A' w x (.lst sz es false) := by
  obtain ⟨xs, hown, hsz, hr⟩ := obj_row h
  rcases own_cells hown with ⟨rfl, rfl, _⟩ | ⟨g, c, rfl, hle, hm, hB, hg, hc⟩
  · exact .nil
  · have hr' := hr.keep (A' := A') (w' := w) (Keeps.less hA)
    refine .lst (fun k j => xs.getD (k * sz + j) .nilFunc) rfl hle hm (by simp) hr.rows (fun _ => hx g rfl) (fun _ => hg) (fun k j => ?_) (fun k j r d h1 h2 => ?_) (fun k j r d h1 h2 => ?_)
    · cases hq : xs[k * sz + j]? with
      | none => simp [List.getD, hq]; rfl
      | some v => simp [List.getD, hq]; exact hr.one v (List.mem_of_getElem? hq)
    · obtain ⟨v, hv, _⟩ := hr.rep k j r d h1 h2
      rw [hc _ v hv]
      simp [List.getD, hv]
    · obtain ⟨v, hv, hi⟩ := hr'.rep k j r d h1 h2
      simp only [List.getD, hv]
      exact hi
theorem Rep.shut {i : Nat} {x : Value} {e : TypeId} {sz : Nat} {es : List (List DV)} (h : Rep A0 w0 n os s a w) (hi : os[i]? = some (x, .row e sz es)) :
    Rep A0 w0 n ((os.map fun p => (p.1, mapO (sub0 i (.lst sz es false)) p.2)).set i (x, .dead)) (s.shut i sz es) a w ∧
    ∀ b, avoid A0 ((os.map fun p => (p.1, mapO (sub0 i (.lst sz es false)) p.2)).set i (x, .dead)) b → avoid A0 os b ∧ blk x ≠ some b := by
  have hav : ∀ b, avoid A0 ((os.map fun p => (p.1, mapO (sub0 i (.lst sz es false)) p.2)).set i (x, .dead)) b → avoid A0 os b ∧ blk x ≠ some b := by
    intro b hb
    rcases hb with hb | ⟨j, z, o', hj, hdd, hbb⟩
    · refine ⟨.inl hb, fun e' => ?_⟩
      have := ((h.obj i _ _ hi).blk_ge (by simp) e').1
      have := h.a0 b hb
      omega
    · by_cases e' : j = i
      · subst e'
        rw [List.getElem?_set_self (by simpa using (List.getElem?_eq_some_iff.1 hi).1)] at hj
        cases hj
        exact absurd rfl hdd
      · rw [List.getElem?_set_ne (fun e2 => e' e2.symm), List.getElem?_map] at hj
        cases hj1 : os[j]? with
        | none => rw [hj1] at hj; cases hj
        | some p =>
          rw [hj1] at hj
          cases hj
          have hd2 : p.2 ≠ .dead := fun e2 => hdd (by rw [e2]; rfl)
          exact ⟨.inr ⟨j, _, _, hj1, hd2, hbb⟩, fun e2 => e' (h.inj j i _ _ _ _ b hj1 hi hd2 (by simp) hbb e2)⟩
  refine ⟨h.sub (w' := w) (x' := x) (ob' := .dead) (r := .lst sz es false) hi (grownBy.refl' _ _) (fun b hd => absurd rfl hd) (fun _ _ => trivial) (fun os' hos => ?_), hav⟩
  subst hos
  exact .imm (own_lst (h.obj i _ _ hi) (fun b hb => (hav b hb).1) (fun b hb h2 => (hav b h2).2 hb))
/-- where the lent rows are let out -/
def avoidX (A0 : Nat → Prop) (os : Objs) (J : List Nat) (b : Nat) : Prop := A0 b ∨ ∃ (i : Nat) (x : Value) (ob : LObj), os[i]? = some (x, ob) ∧ ob ≠ .dead ∧ i ∉ J ∧ blk x = some b
def ownIx : List DV → List Nat
  | [] => []
  | .own j :: r => j :: ownIx r
  | _ :: r => ownIx r
theorem shutIn_ok : ∀ (ds : List DV) {os : Objs} {s : DS} {K : DS → Prop}, Rep A0 w0 n os s a w → shutIn ds s K → ∃ os' s', Rep A0 w0 n os' s' a w ∧ K s' ∧ ∀ b, avoid A0 os' b → avoidX A0 os (ownIx ds) b
  | [], os, s, K, h, hK => ⟨os, s, h, hK, fun b hb => by
      rcases hb with hb | ⟨i, x, o', hi, hd, hbb⟩
      · exact .inl hb
      · exact .inr ⟨i, x, o', hi, hd, by simp [ownIx], hbb⟩⟩
  | d :: r, os, s, K, h, hK => by
    by_cases hd : ∃ j, d = .own j
    · obtain ⟨j, rfl⟩ := hd
      unfold shutIn at hK
      split at hK
      · rename_i e sz es hl
        rw [h.loc] at hl
        obtain ⟨x, hi⟩ := lget_os hl (by simp)
        obtain ⟨h', hav⟩ := h.shut hi
        obtain ⟨os', s', hr, hk, hx⟩ := shutIn_ok r h' hK
        refine ⟨os', s', hr, hk, fun b hb => ?_⟩
        rcases hx b hb with hb | ⟨i, y, o', hi', hdd, hn, hbb⟩
        · exact .inl hb
        · have hij : i ≠ j := by
            intro e
            subst e
            rw [List.getElem?_set_self (by simpa using (List.getElem?_eq_some_iff.1 hi).1)] at hi'
            cases hi'
            exact hdd rfl
          rw [List.getElem?_set_ne (fun e2 => hij e2.symm), List.getElem?_map] at hi'
          cases hj1 : os[i]? with
          | none => rw [hj1] at hi'; cases hi'
          | some p =>
            rw [hj1] at hi'
            cases hi'
            refine .inr ⟨i, _, _, hj1, fun e2 => hdd (by rw [e2]; rfl), ?_, hbb⟩
            simp only [ownIx, List.mem_cons, not_or]
            exact ⟨hij, hn⟩
      · rename_i hl
        rw [h.loc, lget_eq, List.getElem?_map] at hl
        obtain ⟨os', s', hr, hk, hx⟩ := shutIn_ok r h hK
        refine ⟨os', s', hr, hk, fun b hb => ?_⟩
        rcases hx b hb with hb | ⟨i, y, o', hi', hdd, hn, hbb⟩
        · exact .inl hb
        · refine .inr ⟨i, y, o', hi', hdd, ?_, hbb⟩
          simp only [ownIx, List.mem_cons, not_or]
          refine ⟨fun e => ?_, hn⟩
          subst e
          rw [hi'] at hl
          exact hdd hl
      · exact hK.elim
    · have h1 : shutIn (d :: r) s K = shutIn r s K := by cases d <;> first | rfl | exact absurd ⟨_, rfl⟩ hd
      have h2 : ownIx (d :: r) = ownIx r := by cases d <;> first | rfl | exact absurd ⟨_, rfl⟩ hd
      rw [h1] at hK
      rw [h2]
      exact shutIn_ok r h hK

/-! ## lending -/
theorem own_ix : ∀ {ds : List DV} {j : Nat}, .own j ∈ ds → j ∈ ownIx ds
  | [], j, h => by simp at h
  | d :: r, j, h => by
    rcases List.mem_cons.1 h with rfl | h
    · simp [ownIx]
    · have := own_ix h
      cases d <;> simp [ownIx, this]
theorem avoidX_sub {J : List Nat} {b : Nat} (h : avoidX A0 os J b) : avoid A0 os b := by
  rcases h with h | ⟨i, x, o', hi, hd, _, hb⟩
  · exact .inl h
  · exact .inr ⟨i, x, o', hi, hd, hb⟩
theorem lend0_ok {J : List Nat} {x : Value} {d : DV} {Q : DV → Prop} (h : Rep A0 w0 n os s a w) (hr : RepV (avoid A0 os) os w x d) (hJ : ∀ j, d = .own j → j ∈ J) (hl : lend0 s.loc d Q) : ∃ d', Q d' ∧ Imm (avoidX A0 os J) w x d' := by
  have imm : ∀ {d : DV}, Imm (avoid A0 os) w x d → Imm (avoidX A0 os J) w x d := fun hi => hi.keep (Keeps.less (fun _ => avoidX_sub))
  cases d with
  | own j =>
    simp only [lend0] at hl
    split at hl
    · rename_i e sz es hlg
      rw [h.loc] at hlg
      obtain ⟨x', hi'⟩ := lget_os hlg (by simp)
      obtain ⟨_, e3, sz3, es3, hi⟩ := hr.own_inv
      rw [hi] at hi'
      cases hi'
      refine ⟨_, hl, own_lst (h.obj _ _ _ hi) (fun _ => avoidX_sub) (fun b hb hv => ?_)⟩
      rcases hv with hv | ⟨i, y, o', hi', hd, hn, hbb⟩
      · have := ((h.obj _ _ _ hi).blk_ge (by simp) hb).1
        have := h.a0 b hv
        omega
      · exact hn (by rw [h.inj i j _ _ _ _ b hi' hi hd (by simp) hbb hb]; exact hJ j rfl)
    · exact hl.elim
  | lp => exact hl.elim
  | ap => exact hl.elim
  | rp => exact hl.elim
  | wh => exact hl.elim
  | agg => exact hl.elim
  | v y => obtain ⟨rfl, h1⟩ := hr.v_inv; exact ⟨_, hl, .v h1⟩
  | lst => exact ⟨_, hl, imm hr.lst_inv⟩
  | tup => exact ⟨_, hl, imm hr.tup_inv⟩
  | ip => exact ⟨_, hl, imm hr.ip_inv⟩
  | fn => exact ⟨_, hl, imm hr.fn_inv⟩
  | nl => rw [hr.nl_inv]; exact ⟨_, hl, .nl⟩
  | junk => exact ⟨_, hl, .junk⟩
theorem lendL_ok {J : List Nat} (h : Rep A0 w0 n os s a w) : ∀ (vs : List Value) (ds : List DV) {Q : List DV → Prop}, vs.length = ds.length → (∀ (i : Nat) v d, vs[i]? = some v → ds[i]? = some d → RepV (avoid A0 os) os w v d) → (∀ j, .own j ∈ ds → j ∈ J) → lendL s.loc ds Q →
    ∃ ds', Q ds' ∧ vs.length = ds'.length ∧ ∀ (i : Nat) v d, vs[i]? = some v → ds'[i]? = some d → Imm (avoidX A0 os J) w v d
  | [], [], Q, _, _, _, hl => ⟨[], hl, rfl, by simp⟩
  | [], _ :: _, Q, h1, _, _, _ => by simp at h1
  | _ :: _, [], Q, h1, _, _, _ => by simp at h1
  | v :: vs, d :: ds, Q, h1, hr, hJ, hl => by
    obtain ⟨d', hl, hi⟩ := lend0_ok h (hr 0 v d rfl rfl) (fun j e => hJ j (by simp [e])) hl
    obtain ⟨ds', hq, hlen, hp⟩ := lendL_ok h vs ds (by simpa using h1) (fun i v d hv hd => hr (i + 1) v d (by simpa using hv) (by simpa using hd)) (fun j hj => hJ j (by simp [hj])) hl
    refine ⟨d' :: ds', hq, by simp [hlen], fun i v' e hv he => ?_⟩
    cases i with
    | zero => simp at hv he; subst hv he; exact hi
    | succ i => exact hp i v' e (by simpa using hv) (by simpa using he)
theorem lend_ok {J : List Nat} {x : Value} {d : DV} {Q : DV → Prop} (h : Rep A0 w0 n os s a w) (hr : RepV (avoid A0 os) os w x d) (hJ : ∀ j, .own j ∈ owns [d] → j ∈ J) (hl : lend s.loc d Q) : ∃ d', Q d' ∧ Imm (avoidX A0 os J) w x d' := by
  by_cases hd : ∃ cs, d = .agg cs
  · obtain ⟨cs, rfl⟩ := hd
    obtain ⟨vs, rfl, hlen, hone, hp⟩ := hr.agg_inv
    obtain ⟨ds', hq, hl2, hp2⟩ := lendL_ok h vs cs hlen hp (fun j hj => hJ j (by
      simp only [owns, List.append_nil, List.mem_filter]
      exact ⟨hj, trivial⟩)) hl
    exact ⟨_, hq, .agg hl2 hone hp2⟩
  · have h1 : lend s.loc d Q = lend0 s.loc d Q := by cases d <;> first | rfl | exact absurd ⟨_, rfl⟩ hd
    rw [h1] at hl
    exact lend0_ok h hr (fun j e => hJ j (by subst e; simp [owns])) hl
theorem owns_mem : ∀ {d : DV} {ds : List DV} {e : DV}, d ∈ ds → e ∈ owns [d] → e ∈ owns ds
  | d, [], e, h, _ => by simp at h
  | d, x :: r, e, h, he => by
    rcases List.mem_cons.1 h with rfl | h
    · cases d <;> simp [owns] at he ⊢
      · exact .inl he
      · exact .inl he
    · have := owns_mem h he
      cases x <;> simp [owns, this]
theorem lendA_ok {J : List Nat} (h : Rep A0 w0 n os s a w) : ∀ (vs : List Value) (ds : List DV) {Q : List DV → Prop}, vs.length = ds.length → (∀ (i : Nat) v d, vs[i]? = some v → ds[i]? = some d → RepV (avoid A0 os) os w v d) → (∀ j, .own j ∈ owns ds → j ∈ J) → lendA s.loc ds Q →
    ∃ ds', Q ds' ∧ ImmAll (avoidX A0 os J) w vs ds'
  | [], [], Q, _, _, _, hl => ⟨[], hl, trivial⟩
  | [], _ :: _, Q, h1, _, _, _ => by simp at h1
  | _ :: _, [], Q, h1, _, _, _ => by simp at h1
  | v :: vs, d :: ds, Q, h1, hr, hJ, hl => by
    obtain ⟨d', hl, hi⟩ := lend_ok h (hr 0 v d rfl rfl) (fun j e => hJ j (owns_mem (by simp) e)) hl
    obtain ⟨ds', hq, hp⟩ := lendA_ok h vs ds (by simpa using h1) (fun i v d hv hd => hr (i + 1) v d (by simpa using hv) (by simpa using hd)) (fun j hj => hJ j (by
      cases d <;> simp [owns, hj])) hl
    exact ⟨d' :: ds', hq, hi, hp⟩
theorem Imm.le {x : Value} {d d' : DV} (hd : dle d d') (h : Imm A w x d) : Imm A w x d' := by
  induction hd generalizing x with
  | refl => exact h
  | @nil sz sz' f f' hf =>
    cases h with
    | lst xs hn hc hm hff hsz hA hb hone hcell hx => exact .lst xs hn hc hm (fun e => hff (hf e)) (by simp) (fun h => absurd rfl h) (fun h => absurd rfl h) hone (by simp) (by simp)
    | nil => exact .nil
  | nl => cases h; exact .nil
  | lst =>
    cases h with
    | lst xs hn hc hm hff hsz hA hb hone hcell hx => exact .lst xs hn hc hm (by simp) hsz hA hb hone hcell hx
    | nil => exact .nil
  | @agg cs ds hl hh ih =>
    cases h with
    | agg hl' hone hp =>
      refine .agg (hl'.trans hl) hone (fun i v d hv hd => ?_)
      have hi : i < cs.length := by
        have := (List.getElem?_eq_some_iff.1 hd).1
        omega
      exact ih i cs[i] d (List.getElem?_eq_getElem hi) hd (hp i v _ hv (List.getElem?_eq_getElem hi))
  | @tup cs ds hl hh ih =>
    cases h with
    | tup hl' hp =>
      refine .tup (hl'.trans hl) (fun i v d hv hd => ?_)
      have hi : i < cs.length := by
        have := (List.getElem?_eq_some_iff.1 hd).1
        omega
      exact ih i cs[i] d (List.getElem?_eq_getElem hi) hd (hp i v _ hv (List.getElem?_eq_getElem hi))
  | junk => exact .junk
theorem ImmAll.le : ∀ {vs : List Value} {ds ds' : List DV}, DleAll ds ds' → ImmAll A w vs ds → ImmAll A w vs ds'
  | [], [], [], _, _ => trivial
  | [], [], _ :: _, h, _ => h.elim
  | [], _ :: _, _, _, h => h.elim
  | _ :: _, [], _, _, h => h.elim
  | v :: vs, d :: ds, [], h, _ => h.elim
  | v :: vs, d :: ds, e :: es, h, hi => ⟨hi.1.le h.1, ImmAll.le h.2 hi.2⟩
theorem scalar_imm {A' : Nat → Prop} {x : Value} {d : DV} (hs : scalar d = true) (h : Imm A w x d) : Imm A' w x d := by
  have one : ∀ {x : Value} {d : DV}, scalar0 d = true → Imm A w x d → Imm A' w x d := by
    intro x d hs h
    cases d <;> simp [scalar0] at hs
    cases h with
    | v h => exact .v h
  have agg : ∀ {x : Value} {cs : List DV}, cs.all scalar0 = true → Imm A w x (.agg cs) → Imm A' w x (.agg cs) := by
    intro x cs hs h
    cases h with
    | agg hl hone hp => exact .agg hl hone (fun i v d hv hd => one (List.all_eq_true.1 hs d (List.mem_of_getElem? hd)) (hp i v d hv hd))
  cases d <;> simp only [scalar, Bool.false_eq_true] at hs
  · cases h with
    | v h => exact .v h
  · exact agg hs h
  · cases h with
    | tup hl hp =>
      refine .tup hl (fun i v d hv hd => ?_)
      have := List.all_eq_true.1 hs d (List.mem_of_getElem? hd)
      have hi := hp i v d hv hd
      cases d <;> simp at this
      · cases hi with
        | v h => exact .v h
      · exact agg (by simpa using this) hi
end
end Go.Lift
