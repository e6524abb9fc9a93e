/- A data-level logic for the model: what a body does to data; its soundness (part LiftG). No conditions. -/
import Derived.Test.YtmfgjjnmfahcjaaLiftF
set_option linter.unusedSimpArgs false
set_option linter.unusedVariables false
namespace Go.Lift
open Go

/-! # Rows, more: make, literals, copy, stores into a row, a row that becomes a list -/
section
variable {P : Program} {tt : TT} {A0 : Nat → Prop} {w0 : Home} {n : Nat} {os : Objs} {s : DS} {a : Act} {w : World} {o : Oper} {K : DS → Prop} {A : Nat → Prop} {B : Nat} {H : Home}

theorem made_row {z : Array Value} {zero : List DV} {m N : Nat} (hz : CellsRep A os w z zero) (hzi : ∀ (i : Nat) v d, z[i]? = some v → zero[i]? = some d → Imm A w v d) (hpos : 0 < zero.length) (hm : m ≤ N) :
    RowRep A w ((madeCells z (N * zero.length)).toList.take (m * zero.length)) (List.replicate m zero) zero.length := by
  have hle : m * zero.length ≤ N * zero.length := Nat.mul_le_mul_right _ hm
  have hzs := hz.size
  have hg : ∀ q, q < N * zero.length → (madeCells z (N * zero.length))[q]? = some (z[q % z.size]!) := by
    intro q hq
    simp [madeCells, hq]
  have hzq : ∀ q, z[q % z.size]? = some (z[q % z.size]!) := by
    intro q
    have : q % z.size < z.size := Nat.mod_lt _ (by omega)
    simp [this]
  have hml : (madeCells z (N * zero.length)).toList.length = N * zero.length := (Array.length_toList (xs := madeCells z (N * zero.length))).trans (size_madeCells _ _)
  refine ⟨by rw [List.length_take, hml, List.length_replicate]; omega, fun r hr => by rw [(List.mem_replicate.1 hr).2], fun v hv => ?_, fun k j r d hk hj => ?_⟩
  · obtain ⟨q, hq, rfl⟩ := List.getElem_of_mem hv
    have h1 := List.getElem?_eq_getElem hq
    rw [List.getElem?_take] at h1
    split at h1
    · rw [Array.getElem?_toList, hg q (by omega)] at h1
      rw [← Option.some.inj h1]
      have := hzq q
      rw [← Array.getElem?_toList] at this
      exact hz.one _ (List.mem_of_getElem? this)
    · cases h1
  · have hkl : k < m := by have := (List.getElem?_eq_some_iff.1 hk).1; simpa using this
    have hr : r = zero := by rw [List.getElem?_replicate] at hk; split at hk <;> simp_all
    subst hr
    have hjl := (List.getElem?_eq_some_iff.1 hj).1
    have h1 : (k + 1) * r.length ≤ m * r.length := Nat.mul_le_mul_right _ (by omega)
    rw [Nat.add_mul, Nat.one_mul] at h1
    refine ⟨z[(k * r.length + j) % z.size]!, ?_, ?_⟩
    · rw [List.getElem?_take, if_pos (by omega), Array.getElem?_toList, hg _ (by omega)]
    · have hmod : (k * r.length + j) % z.size = j := by
        rw [hzs, Nat.mul_comm, Nat.mul_add_mod, Nat.mod_eq_of_lt hjl]
      have := hzq (k * r.length + j)
      rw [hmod] at this ⊢
      exact hzi j _ d this hj

theorem makeSlice_ok (hT : tabOk P tt = true) {t e : TypeId} {l c : Operand} {kl kc : IntKind} {m N : Nat} {Q : Exit → Act → World → Prop} (ho : o.op = .makeSlice t l c) (hk : (tinfo tt t).k = .slc e) (hs : (tinfo tt e).size ≠ 0)
    (h : Rep A0 w0 n os s a w) (hd : ∀ t, o.dst = some t → t < n) (hl : a.eval l = .int kl m) (hc : a.eval c = .int kc N) (hmN : m ≤ N) (hb : N * (tinfo tt e).bytes ≤ 140737488355328) (hM : N ≤ maxLen)
    (hK : putK ⟨s.env, s.loc ++ [.row e (tinfo tt e).size (List.replicate m (tinfo tt e).zero)]⟩ o.dst (.own s.loc.length) K) : o.wp P a w (Nx A0 w0 n K) Q := by
  obtain ⟨i, hi, hsz, hby, z, hz, hzo, hzl⟩ := tab_size hT hs
  have hu := tab_slc hT hk
  obtain ⟨h1, h2, h3⟩ := zOk_all (A := avoid A0 os) (w := w) hzo
  have hcr : CellsRep (avoid A0 os) os w z.cells (tinfo tt e).zero := ⟨by simpa using h1, h2, fun i v d hv hd => .imm (h3 i v d (by simpa using hv) hd)⟩
  have hM' : (N : Int) ≤ 9223372036854775807 := by simp only [maxLen] at hM; omega
  have hrun := run_make (P := P) w t e i z hu hi hz kl kc m N (by omega) (by omega) (by
    have : ((i.bytes * N : Nat) : Int) ≤ 281474976710656 := by rw [hby, Nat.mul_comm]; omega
    rwa [Int.natCast_mul] at this) hM'
  simp only [Int.toNat_natCast, hsz] at hrun
  have hpos := Nat.pos_of_ne_zero hs
  have hrow := made_row (N := N) (m := m) hcr (fun i v d hv hd => h3 i v d (by simpa using hv) hd) (by omega) hmN
  rw [hzl] at hrow
  have hlen : (List.replicate m (tinfo tt e).zero).length = m := by simp
  have hp := row_push (w' := w.alloc (.cells (madeCells z.cells (N * (tinfo tt e).size)) e)) (x := .slice (some ⟨w.heap.size, 0, none⟩) m N) (e := e) (sz := (tinfo tt e).size) h (World.grownBy_alloc w _ none) (fun b hb => by simp [blk] at hb; omega)
    (xs := (madeCells z.cells (N * (tinfo tt e).size)).toList.take (m * (tinfo tt e).size)) ⟨by rw [hrow.len], .inr ⟨w.heap.size, N, _, by rw [hlen], Nat.zero_le _, heap_alloc_new w _, by rw [hlen]; exact hmN, hM, size_madeCells _ _, by rw [hlen]⟩⟩ hpos hrow
  refine wp_value (x := .slice (some ⟨w.heap.size, 0, none⟩) m N) (w' := w.alloc (.cells (madeCells z.cells (N * (tinfo tt e).size)) e)) ?_ (Nx.put hp hd (by rw [h.len]; exact .own last_obj rfl) hK)
  simp only [execOp, ho, hl, hc, Sem.run_bind, hrun, Result.andThen_ok, Sem.run_pure]

/-! ## a row becomes a list -/
theorem own_lst {A' : Nat → Prop} {x : Value} {e : TypeId} {sz : Nat} {es : List (List DV)} (h : ObjOk A os H w x (.row e sz es)) (hA : ∀ b, A' b → A b) (hx : ∀ b, blk x = some b → ¬ A' b) : Imm A' w x (.lst sz es false) := by
  obtain ⟨xs, hown, hsz, hr⟩ := obj_row h
  rcases own_cells hown with ⟨rfl, rfl, _⟩ | ⟨g, c, rfl, hle, hm, hB, hg, hc⟩
  · exact .nil
  · have hr' := hr.keep (A' := A') (w' := w) (Keeps.less hA)
    refine .lst (fun k j => xs.getD (k * sz + j) .nilFunc) rfl hle hm (by simp) hr.rows (fun _ => hx g rfl) (fun _ => hg) (fun k j => ?_) (fun k j r d h1 h2 => ?_) (fun k j r d h1 h2 => ?_)
    · cases hq : xs[k * sz + j]? with
      | none => simp [List.getD, hq]; rfl
      | some v => simp [List.getD, hq]; exact hr.one v (List.mem_of_getElem? hq)
    · obtain ⟨v, hv, _⟩ := hr.rep k j r d h1 h2
      rw [hc _ v hv]
      simp [List.getD, hv]
    · obtain ⟨v, hv, hi⟩ := hr'.rep k j r d h1 h2
      simp only [List.getD, hv]
      exact hi
theorem Rep.shut {i : Nat} {x : Value} {e : TypeId} {sz : Nat} {es : List (List DV)} (h : Rep A0 w0 n os s a w) (hi : os[i]? = some (x, .row e sz es)) :
    Rep A0 w0 n ((os.map fun p => (p.1, mapO (sub0 i (.lst sz es false)) p.2)).set i (x, .dead)) (s.shut i sz es) a w ∧
    ∀ b, avoid A0 ((os.map fun p => (p.1, mapO (sub0 i (.lst sz es false)) p.2)).set i (x, .dead)) b → avoid A0 os b ∧ blk x ≠ some b := by
  have hav : ∀ b, avoid A0 ((os.map fun p => (p.1, mapO (sub0 i (.lst sz es false)) p.2)).set i (x, .dead)) b → avoid A0 os b ∧ blk x ≠ some b := by
    intro b hb
    rcases hb with hb | ⟨j, z, o', hj, hdd, hbb⟩
    · refine ⟨.inl hb, fun e' => ?_⟩
      exact h.a0 b hb ((h.obj i _ _ hi).blk_ge (by simp) e').1
    · by_cases e' : j = i
      · subst e'
        rw [List.getElem?_set_self (by simpa using (List.getElem?_eq_some_iff.1 hi).1)] at hj
        cases hj
        exact absurd rfl hdd
      · rw [List.getElem?_set_ne (fun e2 => e' e2.symm), List.getElem?_map] at hj
        cases hj1 : os[j]? with
        | none => rw [hj1] at hj; cases hj
        | some p =>
          rw [hj1] at hj
          cases hj
          have hd2 : p.2 ≠ .dead := fun e2 => hdd (by rw [e2]; rfl)
          exact ⟨.inr ⟨j, _, _, hj1, hd2, hbb⟩, fun e2 => e' (h.inj j i _ _ _ _ b hj1 hi hd2 (by simp) hbb e2)⟩
  refine ⟨h.sub (w' := w) (x' := x) (ob' := .dead) (r := .lst sz es false) hi (grownBy.refl' _ _) (fun b hd => absurd rfl hd) (fun _ _ => trivial) (fun os' hos => ?_), hav⟩
  subst hos
  exact .imm (own_lst (h.obj i _ _ hi) (fun b hb => (hav b hb).1) (fun b hb h2 => (hav b h2).2 hb))
/-- values over other objects -/
theorem Rep.remap {os' : Objs} {s' : DS} (h : Rep A0 w0 n os s a w) (φ φT : DV → DV)
    (hmap : ∀ {z : Value} {d : DV}, RepV (avoid A0 os) os w z d → (z.oneCell' = true → RepV (avoid A0 os') os' w z (φ d)) ∧ RepV (avoid A0 os') os' w z (φT d))
    (k : Keeps (avoid A0 os) (avoid A0 os') w w) (hos : ∀ (i : Nat) z o', os'[i]? = some (z, o') → o' = .dead ∨ ∃ o1, os[i]? = some (z, o1) ∧ o' = mapO φ o1)
    (hloc : s'.loc = os'.map (·.2)) (henv : ∀ t, look s'.env t = φT (look s.env t)) : Rep A0 w0 n os' s' a w := by
  refine ⟨h.size, h.defers, h.gr, h.a0, hloc, fun t => by rw [henv]; exact (hmap (h.env t)).2, fun i z o' hi => ?_, fun i j x o y o' b hi hj d1 d2 b1 b2 => ?_⟩
  · rcases hos i z o' hi with rfl | ⟨o1, h1, rfl⟩
    · exact trivial
    · have ho1 := h.obj _ _ _ h1
      cases o1 with
      | dead => exact trivial
      | gone => exact ho1
      | gh ds =>
        obtain ⟨e1, e2, e3, e4⟩ := ho1
        refine ⟨e1, by simpa using e2, e3, fun i' v d hv hd => ?_⟩
        rw [List.getElem?_map] at hd
        cases hj : ds[i']? with
        | none => rw [hj] at hd; cases hd
        | some d' =>
          rw [hj] at hd
          simp at hd
          subst hd
          exact (hmap (e4 i' v d' hv hj)).1 (e3 v (List.mem_of_getElem? hv))
      | cells t cs =>
        obtain ⟨g, arr, rfl, hB, hh, hs, hone, hrr⟩ := ho1
        refine ⟨g, arr, rfl, hB, hh, by simpa using hs, hone, fun j' v d hv hd => ?_⟩
        rw [List.getElem?_map] at hd
        cases hj : cs[j']? with
        | none => rw [hj] at hd; cases hd
        | some d' =>
          rw [hj] at hd
          simp at hd
          subst hd
          refine (hmap (hrr j' v d' hv hj)).1 (hone v ?_)
          rw [← Array.getElem?_toList] at hv
          exact List.mem_of_getElem? hv
      | row e2 sz2 es2 =>
        obtain ⟨hmine, xs, hown, hsz, hrl, hone, hr⟩ := ho1
        exact ⟨hmine, xs, hown, hsz, hrl, hone, fun k' j' r d h1 h2 => by
          obtain ⟨v, hv, hi⟩ := hr k' j' r d h1 h2
          exact ⟨v, hv, hi.keep k⟩⟩
  · have hdd : ∀ o1 : LObj, mapO φ o1 ≠ .dead → o1 ≠ .dead := by intro o1; cases o1 <;> simp [mapO]
    rcases hos i x o hi with rfl | ⟨o1, h1, rfl⟩
    · exact absurd rfl d1
    · rcases hos j y o' hj with rfl | ⟨o2, h2, rfl⟩
      · exact absurd rfl d2
      · exact h.inj i j x o1 y o2 b h1 h2 (hdd _ d1) (hdd _ d2) b1 b2
theorem Rep.shutC {i : Nat} {x : Value} {t : TypeId} {cs : List DV} (h : Rep A0 w0 n os s a w) (hi : os[i]? = some (x, .cells t cs)) (hpl : plainAll cs = true) :
    Rep A0 w0 n ((os.map fun p => (p.1, mapO (subC0 i cs) p.2)).set i (x, .dead)) (s.shutC i cs) a w ∧
    ∀ b, avoid A0 ((os.map fun p => (p.1, mapO (subC0 i cs) p.2)).set i (x, .dead)) b → avoid A0 os b ∧ blk x ≠ some b := by
  have hlt := (List.getElem?_eq_some_iff.1 hi).1
  generalize hos : (os.map fun p => (p.1, mapO (subC0 i cs) p.2)).set i (x, .dead) = os'
  have hoi : os'[i]? = some (x, .dead) := by rw [← hos, List.getElem?_set_self (by simpa using hlt)]
  have hoth : ∀ {k : Nat}, k ≠ i → os'[k]? = (os[k]?).map fun p => (p.1, mapO (subC0 i cs) p.2) := by
    intro k h1
    rw [← hos, List.getElem?_set_ne (fun e => h1 e.symm), List.getElem?_map]
  have hget : ∀ (k : Nat) (z : Value) (o' : LObj), os'[k]? = some (z, o') → (k = i ∧ z = x ∧ o' = .dead) ∨ (k ≠ i ∧ ∃ o1, os[k]? = some (z, o1) ∧ o' = mapO (subC0 i cs) o1) := by
    intro k z o' hk
    by_cases e1 : k = i
    · subst e1; rw [hoi] at hk; cases hk; exact .inl ⟨rfl, rfl, rfl⟩
    · rw [hoth e1] at hk
      cases hk1 : os[k]? with
      | none => rw [hk1] at hk; cases hk
      | some p => rw [hk1] at hk; cases hk; exact .inr ⟨e1, _, rfl, rfl⟩
  have hdd : ∀ o1 : LObj, mapO (subC0 i cs) o1 ≠ .dead → o1 ≠ .dead := by intro o1; cases o1 <;> simp [mapO]
  have hav : ∀ b, avoid A0 os' b → avoid A0 os b ∧ blk x ≠ some b := by
    intro b hb
    rcases hb with hb | ⟨j, z, o', hj, hd, hbb⟩
    · exact ⟨.inl hb, fun e' => h.a0 b hb ((h.obj i _ _ hi).blk_ge (by simp) e').1⟩
    · rcases hget j z o' hj with ⟨rfl, rfl, rfl⟩ | ⟨hne, o1, hj1, rfl⟩
      · exact absurd rfl hd
      · exact ⟨.inr ⟨j, _, _, hj1, hdd _ hd, hbb⟩, fun e2 => hne (h.inj j i _ _ _ _ b hj1 hi (hdd _ hd) (by simp) hbb e2)⟩
  have kp : Keeps (avoid A0 os) (avoid A0 os') w w := Keeps.less (fun b hb => (hav b hb).1)
  have hpm := plainAll_mem hpl
  have bf : ∀ {p q : Nat}, p ≠ q → Nat.beq p q = false := by
    intro p q hne
    cases hb : Nat.beq p q
    · rfl
    · exact absurd (Nat.eq_of_beq_eq_true hb) hne
  have hip : ∀ (off g : Nat) (t2 : TypeId) (cs2 : List DV), os[i]? = some (.pointer (some ⟨g, 0, none⟩), .cells t2 cs2) → Imm (avoid A0 os') w (.pointer (some ⟨g, off, none⟩)) (.ip (cs.drop off)) := by
    intro off g t2 cs2 hk
    rw [hi] at hk
    cases hk
    obtain ⟨arr, hh, _, _, _, _, hcell⟩ := obj_cells h.obj hi
    refine ip_mk (fun hb => (hav g hb).2 rfl) (Array.getElem?_eq_some_iff.1 hh).1 (fun j d hd => ?_)
    rw [List.getElem?_drop] at hd
    obtain ⟨v, h1, h2, h3⟩ := hcell _ d hd
    exact ⟨v, by rw [Addr.add_mk]; exact h1, h2, ((h3.plain (hpm d (List.mem_of_getElem? hd))).2).keep kp⟩
  have hcap : ∀ {z : Value} {d : DV}, Imm (avoid A0 os) w z d → Imm (avoid A0 os') w z (subCc i cs d) := by
    intro z d hz
    cases d
    case lp => cases hz
    all_goals exact hz.keep kp
  have himm : ∀ {z : Value} {d : DV}, Imm (avoid A0 os) w z d → Imm (avoid A0 os') w z (subC0 i cs d) ∧ Imm (avoid A0 os') w z (subCT i cs d) := by
    intro z d hz
    induction hz with
    | v h => exact ⟨.v h, .v h⟩
    | lst xs hn hc hm hf hsz hA hb hone hcell hx ih => exact ⟨(Imm.lst xs hn hc hm hf hsz hA hb hone hcell hx).keep kp, (Imm.lst xs hn hc hm hf hsz hA hb hone hcell hx).keep kp⟩
    | nil => exact ⟨.nil, .nil⟩
    | nl => exact ⟨.nl, .nl⟩
    | agg hl hone h ih =>
      refine ⟨(Imm.agg hl hone h).keep kp, .agg (by simpa using hl) hone (fun j v d hv hd => ?_)⟩
      rw [List.getElem?_map] at hd
      rename_i ds
      cases hj : ds[j]? with
      | none => rw [hj] at hd; cases hd
      | some e => rw [hj] at hd; simp at hd; subst hd; exact (ih j v e hv hj).1
    | tup hl h _ => exact ⟨(Imm.tup hl h).keep kp, (Imm.tup hl h).keep kp⟩
    | ip xs hA hb hone hcell hx _ => exact ⟨(Imm.ip xs hA hb hone hcell hx).keep kp, (Imm.ip xs hA hb hone hcell hx).keep kp⟩
    | @fn f vs ds hl h _ =>
      have key : Imm (avoid A0 os') w (.func f #[] vs.toArray) (.fn f (ds.map (subCc i cs))) := by
        refine .fn (by simpa using hl) (fun j v d hv hd => ?_)
        rw [List.getElem?_map] at hd
        cases hj : ds[j]? with
        | none => rw [hj] at hd; cases hd
        | some e => rw [hj] at hd; simp at hd; subst hd; exact hcap (h j v e hv hj)
      exact ⟨key, key⟩
    | wh _ h0 ih => exact ⟨.wh (fun hb => (ih hb).1) h0, .wh (fun hb => (ih hb).2) h0⟩
    | junk => exact ⟨.junk, .junk⟩
  have hmap : ∀ {z : Value} {d : DV}, RepV (avoid A0 os) os w z d → (z.oneCell' = true → RepV (avoid A0 os') os' w z (subC0 i cs d)) ∧ RepV (avoid A0 os') os' w z (subCT i cs d) := by
    intro z d hz
    induction hz with
    | imm h => exact ⟨fun _ => .imm (himm h).1, .imm (himm h).2⟩
    | @lp k off g t2 cs2 hk =>
      have key : RepV (avoid A0 os') os' w (.pointer (some ⟨g, off, none⟩)) (subC0 i cs (.lp k off)) := by
        by_cases hne : k = i
        · subst hne
          simp only [subC0, Nat.beq_refl]
          exact .imm (hip off g t2 cs2 hk)
        · simp only [subC0, bf (fun e => hne e.symm)]
          exact .lp (t := t2) (cs := cs2.map (subC0 i cs)) (by rw [hoth hne, hk]; rfl)
      exact ⟨fun _ => key, key⟩
    | @ap k off g t2 cs2 hk =>
      have key : RepV (avoid A0 os') os' w (.pointer (some ⟨g, off, none⟩)) (subC0 i cs (.ap k off)) := by
        by_cases hne : k = i
        · subst hne
          simp only [subC0, Nat.beq_refl]
          exact .imm (hip off g t2 cs2 hk)
        · simp only [subC0, bf (fun e => hne e.symm)]
          exact .ap (t := t2) (cs := cs2.map (subC0 i cs)) (by rw [hoth hne, hk]; rfl)
      exact ⟨fun _ => key, key⟩
    | @rp k kk off g m c e2 sz2 es2 hk =>
      have hne : k ≠ i := fun e => by subst e; rw [hi] at hk; cases hk
      have key : RepV (avoid A0 os') os' w (.pointer (some ⟨g, kk * sz2 + off, none⟩)) (.rp k kk off) := .rp (e := e2) (sz := sz2) (es := es2) (n := m) (c := c) (by rw [hoth hne, hk]; rfl)
      exact ⟨fun _ => key, key⟩
    | @own k z e2 sz2 es2 hk h1 =>
      have hne : k ≠ i := fun e => by subst e; rw [hi] at hk; cases hk
      have key : RepV (avoid A0 os') os' w z (.own k) := .own (e := e2) (sz := sz2) (es := es2) (by rw [hoth hne, hk]; rfl) h1
      exact ⟨fun _ => key, key⟩
    | @stale k z y2 d hk hd h1 =>
      have hne : k ≠ i := fun e => by subst e; rw [hi] at hk; cases hk
      have hk' : os'[k]? = some (y2, .gone) := by rw [hoth hne, hk]; rfl
      rcases hd with rfl | ⟨kk, off, rfl⟩
      · exact ⟨fun _ => .stale hk' (.inl rfl) h1, .stale hk' (.inl rfl) h1⟩
      · exact ⟨fun _ => .stale hk' (.inr ⟨_, _, rfl⟩) h1, .stale hk' (.inr ⟨_, _, rfl⟩) h1⟩
    | @agg vs ds hl hone _ ih =>
      refine ⟨fun h => by simp [Value.oneCell'] at h, .agg (by simpa using hl) hone (fun k v d hv hd => ?_)⟩
      rw [List.getElem?_map] at hd
      cases hk : ds[k]? with
      | none => rw [hk] at hd; cases hd
      | some e => rw [hk] at hd; simp at hd; subst hd; exact (ih k v e hv hk).1 (hone v (List.mem_of_getElem? hv))
    | @fn f vs ds hl hcp hh ih =>
      have key : RepV (avoid A0 os') os' w (.func f #[] vs.toArray) (.fn f (ds.map (subCc i cs))) := by
        refine .fn (by simpa using hl) (fun d hd => ?_) (fun j v d hv hd => ?_)
        · obtain ⟨e, he, rfl⟩ := List.mem_map.1 hd
          have hc := hcp e he
          cases e <;> simp [isCap, plainCap] at hc
          case lp k o =>
            simp only [subCc]
            split <;> rfl
          all_goals first | rfl | skip
          rename_i g caps
          have : caps = [] := by cases caps <;> simp_all [plainCap]
          subst this
          rfl
        · rw [List.getElem?_map] at hd
          cases hj : ds[j]? with
          | none => rw [hj] at hd; cases hd
          | some e =>
            rw [hj] at hd
            simp at hd
            subst hd
            have hc := hcp e (List.mem_of_getElem? hj)
            have h2 := (ih j v e hv hj).2
            cases e <;> simp [isCap, plainCap] at hc
            all_goals first | exact h2 | skip
            rename_i g caps
            have : caps = [] := by cases caps <;> simp_all [plainCap]
            subst this
            exact h2
      exact ⟨fun _ => key, key⟩
    | wh _ h0 ih => exact ⟨fun h1 => .wh (fun hb => (ih hb).1 h1) h0, .wh (fun hb => (ih hb).2) h0⟩
  refine ⟨h.remap (subC0 i cs) (subCT i cs) hmap kp (fun k z o' hk => ?_) ?_ (fun t => ?_), hav⟩
  · rcases hget k z o' hk with ⟨_, _, rfl⟩ | ⟨_, o1, h1, h2⟩
    · exact .inl rfl
    · exact .inr ⟨o1, h1, h2⟩
  · rw [← hos]
    show lset (mapL (subC0 i cs) s.loc) i .dead = _
    rw [lset_eq, mapL_eq, h.loc, List.map_set, List.map_map, List.map_map]
    rfl
  · show look (mapE (subCT i cs) s.env) t = _
    rw [look_mapE _ (by rfl)]
/-- where the lent rows are let out -/
def avoidX (A0 : Nat → Prop) (os : Objs) (J : List Nat) (b : Nat) : Prop := A0 b ∨ ∃ (i : Nat) (x : Value) (ob : LObj), os[i]? = some (x, ob) ∧ ob ≠ .dead ∧ i ∉ J ∧ blk x = some b
def hIx : DV → Option Nat
  | .own j => some j
  | .lp j _ => some j
  | _ => none
def ownIx (ds : List DV) : List Nat := ds.filterMap hIx
theorem own_ix {ds : List DV} {d : DV} {j : Nat} (h : d ∈ ds) (hj : hIx d = some j) : j ∈ ownIx ds := List.mem_filterMap.2 ⟨d, h, hj⟩
theorem shutIn_ok : ∀ (ds : List DV) {os : Objs} {s : DS} {K : DS → Prop}, Rep A0 w0 n os s a w → shutIn ds s K → ∃ os' s', Rep A0 w0 n os' s' a w ∧ K s' ∧ (∀ b, avoid A0 os' b → avoidX A0 os (ownIx ds) b) ∧ ∀ (i : Nat) x o, i ∉ ownIx ds → os[i]? = some (x, o) → ∃ o', os'[i]? = some (x, o') ∧ kindIs o o'
  | [], os, s, K, h, hK => ⟨os, s, h, hK, fun b hb => by
      rcases hb with hb | ⟨i, x, o', hi, hd, hbb⟩
      · exact .inl hb
      · exact .inr ⟨i, x, o', hi, hd, by simp [ownIx], hbb⟩, fun i x o _ hi => ⟨o, hi, by cases o <;> simp [kindIs]⟩⟩
  | d :: r, os, s, K, h, hK => by
    have live : ∀ {j : Nat}, (∀ e sz es, lget s.loc j ≠ .row e sz es) → (∀ t cs, lget s.loc j ≠ .cells t cs) → hIx d = some j → shutIn r s K → ∃ os' s', Rep A0 w0 n os' s' a w ∧ K s' ∧ (∀ b, avoid A0 os' b → avoidX A0 os (ownIx (d :: r)) b) ∧ ∀ (i : Nat) x o, i ∉ ownIx (d :: r) → os[i]? = some (x, o) → ∃ o', os'[i]? = some (x, o') ∧ kindIs o o' := by
      intro j hl1 hl2 hx hK
      obtain ⟨os', s', hr, hk, hx', hkp⟩ := shutIn_ok r h hK
      refine ⟨os', s', hr, hk, fun b hb => ?_, fun i y ob hi ho => hkp i y ob (fun hm => hi (by simp [ownIx, hx]; exact .inr (by simpa [ownIx] using hm))) ho⟩
      rcases hx' b hb with hb | ⟨i, y, o', hi', hdd, hn, hbb⟩
      · exact .inl hb
      · refine .inr ⟨i, y, o', hi', hdd, ?_, hbb⟩
        have e1 : ownIx (d :: r) = j :: ownIx r := by simp [ownIx, hx]
        rw [e1]
        simp only [List.mem_cons, not_or]
        refine ⟨fun e => ?_, hn⟩
        subst e
        have hll : lget s.loc i = o' := by rw [h.loc, lget_eq, List.getElem?_map, hi']; rfl
        cases o' with
        | row e sz es => exact hl1 _ _ _ hll
        | cells t cs => exact hl2 _ _ hll
        | dead => exact hdd rfl
        | gone => have h9 : blk y = none := h.obj _ _ _ hi'; rw [h9] at hbb; cases hbb
        | gh ds => obtain ⟨rfl, _⟩ := h.obj _ _ _ hi'; simp [blk] at hbb
    have step : ∀ {j : Nat} {x : Value} {ob : LObj} {φ : DV → DV} {s1 : DS}, os[j]? = some (x, ob) → hIx d = some j → Rep A0 w0 n ((os.map fun p => (p.1, mapO φ p.2)).set j (x, .dead)) s1 a w → shutIn r s1 K →
        ∃ os' s', Rep A0 w0 n os' s' a w ∧ K s' ∧ (∀ b, avoid A0 os' b → avoidX A0 os (ownIx (d :: r)) b) ∧ ∀ (i : Nat) x o, i ∉ ownIx (d :: r) → os[i]? = some (x, o) → ∃ o', os'[i]? = some (x, o') ∧ kindIs o o' := by
      intro j x ob φ s1 hi hx h' hK
      obtain ⟨os', s', hr, hk, hx', hkp⟩ := shutIn_ok r h' hK
      refine ⟨os', s', hr, hk, fun b hb => ?_, fun i y ob1 hi2 ho => ?_⟩
      rotate_left
      · have hij : i ≠ j := fun e => hi2 (by subst e; exact own_ix List.mem_cons_self hx)
        obtain ⟨o', h1, h2⟩ := hkp i y (mapO φ ob1) (fun hm => hi2 (by simp [ownIx, hx]; exact .inr (by simpa [ownIx] using hm))) (by rw [List.getElem?_set_ne (fun e2 => hij e2.symm), List.getElem?_map, ho]; rfl)
        exact ⟨o', h1, by cases ob1 <;> cases o' <;> simp [kindIs, mapO] at h2 ⊢ <;> exact h2⟩
      rcases hx' b hb with hb | ⟨i, y, o', hi', hdd, hn, hbb⟩
      · exact .inl hb
      · have hij : i ≠ j := by
          intro e
          subst e
          rw [List.getElem?_set_self (by simpa using (List.getElem?_eq_some_iff.1 hi).1)] at hi'
          cases hi'
          exact hdd rfl
        rw [List.getElem?_set_ne (fun e2 => hij e2.symm), List.getElem?_map] at hi'
        cases hj1 : os[i]? with
        | none => rw [hj1] at hi'; cases hi'
        | some p =>
          rw [hj1] at hi'
          cases hi'
          refine .inr ⟨i, _, _, hj1, fun e2 => hdd (by rw [e2]; rfl), ?_, hbb⟩
          have e1 : ownIx (d :: r) = j :: ownIx r := by simp [ownIx, hx]
          rw [e1]
          simp only [List.mem_cons, not_or]
          exact ⟨hij, hn⟩
    by_cases hd : ∃ j, d = .own j
    · obtain ⟨j, rfl⟩ := hd
      unfold shutIn at hK
      split at hK
      · rename_i e sz es hl
        rw [h.loc] at hl
        obtain ⟨x, hi⟩ := lget_os hl (by simp)
        exact step hi rfl (h.shut hi).1 hK
      · exact hK.elim
      · rename_i hl1 hl2
        exact live (fun _ _ _ e => hl1 _ _ _ e) (fun _ _ e => hl2 _ _ e) rfl hK
    · by_cases hd2 : ∃ j o, d = .lp j o
      · obtain ⟨j, off, rfl⟩ := hd2
        unfold shutIn at hK
        split at hK
        · rename_i t cs hl
          split at hK
          · rename_i hpl
            rw [h.loc] at hl
            obtain ⟨x, hi⟩ := lget_os hl (by simp)
            exact step hi rfl (h.shutC hi hpl).1 hK
          · exact hK.elim
        · exact hK.elim
        · rename_i hl1 hl2
          exact live (fun _ _ _ e => hl2 _ _ _ e) (fun _ _ e => hl1 _ _ e) rfl hK
      · have h1 : shutIn (d :: r) s K = shutIn r s K := by cases d <;> first | rfl | exact absurd ⟨_, rfl⟩ hd | exact absurd ⟨_, _, rfl⟩ hd2
        have h2 : ownIx (d :: r) = ownIx r := by cases d <;> first | rfl | exact absurd ⟨_, rfl⟩ hd | exact absurd ⟨_, _, rfl⟩ hd2
        rw [h1] at hK
        rw [h2]
        exact shutIn_ok r h hK

/-! ## lending -/
theorem avoidX_sub {J : List Nat} {b : Nat} (h : avoidX A0 os J b) : avoid A0 os b := by
  rcases h with h | ⟨i, x, o', hi, hd, _, hb⟩
  · exact .inl h
  · exact .inr ⟨i, x, o', hi, hd, hb⟩
theorem lendP_ok {J : List Nat} {x : Value} {j off : Nat} {t : TypeId} {cs : List DV} (h : Rep A0 w0 n os s a w) (hr : RepV (avoid A0 os) os w x (.lp j off)) (hJ : j ∈ J) (hl : lget s.loc j = .cells t cs) (hpl : plainAll cs = true) : Imm (avoidX A0 os J) w x (.ip (cs.drop off)) := by
  rw [h.loc] at hl
  obtain ⟨x', hi⟩ := lget_os hl (by simp)
  obtain ⟨g, t', cs', hi', rfl⟩ := hr.lp_inv
  rw [hi] at hi'
  cases hi'
  obtain ⟨arr, hh, _, _, _, _, hcell⟩ := obj_cells h.obj hi
  refine ip_mk (fun hv => ?_) (Array.getElem?_eq_some_iff.1 hh).1 (fun q d hd => ?_)
  · rcases hv with hv | ⟨i, y, o', hi', hd, hn, hbb⟩
    · exact h.a0 g hv ((h.obj _ _ _ hi).blk_ge (by simp) rfl).1
    · exact hn (by rw [h.inj i j _ _ _ _ g hi' hi hd (by simp) hbb rfl]; exact hJ)
  · rw [List.getElem?_drop] at hd
    obtain ⟨v, h1, h2, h3⟩ := hcell _ d hd
    exact ⟨v, by rw [Addr.add_mk]; exact h1, h2, ((h3.plain (plainAll_mem hpl d (List.mem_of_getElem? hd))).2).keep (Keeps.less (fun _ => avoidX_sub))⟩
theorem lendC_ok {J : List Nat} {x : Value} {d : DV} {Q : DV → Prop} (h : Rep A0 w0 n os s a w) (hr : RepV (avoid A0 os) os w x d) (hc : isCap d = true ∨ Imm (avoid A0 os) w x d) (hJ : ∀ j o, d = .lp j o → j ∈ J) (hl : lendC s.loc d Q) : ∃ d', Q d' ∧ Imm (avoidX A0 os J) w x d' := by
  have imm : ∀ {d : DV}, Imm (avoid A0 os) w x d → Imm (avoidX A0 os J) w x d := fun hi => hi.keep (Keeps.less (fun _ => avoidX_sub))
  by_cases hd : ∃ j o, d = .lp j o
  · obtain ⟨j, off, rfl⟩ := hd
    unfold lendC at hl
    split at hl
    · rename_i j' o' e
      cases e
      split at hl
      · rename_i t cs hlg
        split at hl
        · rename_i hpl
          exact ⟨_, hl, lendP_ok h hr (hJ _ _ rfl) hlg hpl⟩
        · exact hl.elim
      · exact hl.elim
    · rename_i hne
      exact absurd rfl (hne _ _)
  · have h1 : lendC s.loc d Q = Q d := by cases d <;> first | rfl | exact absurd ⟨_, _, rfl⟩ hd
    rw [h1] at hl
    refine ⟨d, hl, imm ?_⟩
    rcases hc with hc | hc
    · by_cases hip : ∃ cs, d = .ip cs
      · obtain ⟨cs, rfl⟩ := hip
        exact hr.ip_inv
      · refine (hr.plain ?_).2
        cases d
        case lp => exact absurd ⟨_, _, rfl⟩ hd
        case ip => exact absurd ⟨_, rfl⟩ hip
        case fn f caps =>
          have : caps = [] := by cases caps <;> simp_all [isCap, plainCap]
          subst this
          rfl
        all_goals first | rfl | (simp [isCap, plainCap] at hc)
    · exact hc
theorem lendCs_ok {J : List Nat} (h : Rep A0 w0 n os s a w) : ∀ (vs : List Value) (ds : List DV) {Q : List DV → Prop}, vs.length = ds.length → (∀ (i : Nat) v d, vs[i]? = some v → ds[i]? = some d → RepV (avoid A0 os) os w v d ∧ (isCap d = true ∨ Imm (avoid A0 os) w v d)) → (∀ j o, .lp j o ∈ ds → j ∈ J) → lendCs s.loc ds Q →
    ∃ ds', Q ds' ∧ vs.length = ds'.length ∧ ∀ (i : Nat) v d, vs[i]? = some v → ds'[i]? = some d → Imm (avoidX A0 os J) w v d
  | [], [], Q, _, _, _, hl => ⟨[], hl, rfl, by simp⟩
  | [], _ :: _, Q, h1, _, _, _ => by simp at h1
  | _ :: _, [], Q, h1, _, _, _ => by simp at h1
  | v :: vs, d :: ds, Q, h1, hr, hJ, hl => by
    obtain ⟨d', hl, hi⟩ := lendC_ok h (hr 0 v d rfl rfl).1 (hr 0 v d rfl rfl).2 (fun j o e => hJ j o (by simp [e])) hl
    obtain ⟨ds', hq, hlen, hp⟩ := lendCs_ok h vs ds (by simpa using h1) (fun i v d hv hd => hr (i + 1) v d (by simpa using hv) (by simpa using hd)) (fun j o hj => hJ j o (by simp [hj])) hl
    refine ⟨d' :: ds', hq, by simp [hlen], fun i v' e hv he => ?_⟩
    cases i with
    | zero => simp at hv he; subst hv he; exact hi
    | succ i => exact hp i v' e (by simpa using hv) (by simpa using he)
theorem lend0_ok {J : List Nat} {x : Value} {d : DV} {Q : DV → Prop} (h : Rep A0 w0 n os s a w) (hr : RepV (avoid A0 os) os w x d) (hJ : ∀ e j, e ∈ own0 d → hIx e = some j → j ∈ J) (hl : lend0 s.loc d Q) : ∃ d', Q d' ∧ Imm (avoidX A0 os J) w x d' := by
  have imm : ∀ {d : DV}, Imm (avoid A0 os) w x d → Imm (avoidX A0 os J) w x d := fun hi => hi.keep (Keeps.less (fun _ => avoidX_sub))
  cases d with
  | own j =>
    simp only [lend0] at hl
    split at hl
    · rename_i e sz es hlg
      rw [h.loc] at hlg
      obtain ⟨x', hi⟩ := lget_os hlg (by simp)
      have hxe := hr.own_row hi
      subst hxe
      refine ⟨_, hl, own_lst (h.obj _ _ _ hi) (fun _ => avoidX_sub) (fun b hb hv => ?_)⟩
      rcases hv with hv | ⟨i, y, o', hi', hd, hn, hbb⟩
      · exact h.a0 b hv ((h.obj _ _ _ hi).blk_ge (by simp) hb).1
      · exact hn (by rw [h.inj i j _ _ _ _ b hi' hi hd (by simp) hbb hb]; exact hJ (.own j) j (by simp [own0]) rfl)
    · exact hl.elim
  | lp j off =>
    simp only [lend0] at hl
    split at hl
    · rename_i t cs hlg
      split at hl
      · rename_i hpl
        exact ⟨_, hl, lendP_ok h hr (hJ (.lp j off) j (by simp [own0]) rfl) hlg hpl⟩
      · exact hl.elim
    · exact hl.elim
  | ap => exact hl.elim
  | rp => exact hl.elim
  | wh => exact hl.elim
  | agg => exact hl.elim
  | v y => obtain ⟨rfl, h1⟩ := hr.v_inv; exact ⟨_, hl, .v h1⟩
  | lst => exact ⟨_, hl, imm hr.lst_inv⟩
  | tup => exact ⟨_, hl, imm hr.tup_inv⟩
  | ip => exact ⟨_, hl, imm hr.ip_inv⟩
  | fn f caps =>
    have hl : lendCs s.loc caps fun l => Q (.fn f l) := hl
    have hcaps : ∃ vs : List Value, x = .func f #[] vs.toArray ∧ vs.length = caps.length ∧ ∀ (i : Nat) v d, vs[i]? = some v → caps[i]? = some d → RepV (avoid A0 os) os w v d ∧ (isCap d = true ∨ Imm (avoid A0 os) w v d) := by
      cases hr with
      | imm h => cases h with
        | fn hl hp => exact ⟨_, rfl, hl, fun i v d hv hd => ⟨.imm (hp i v d hv hd), .inr (hp i v d hv hd)⟩⟩
      | fn hl hcap hp => exact ⟨_, rfl, hl, fun i v d hv hd => ⟨hp i v d hv hd, .inl (hcap d (List.mem_of_getElem? hd))⟩⟩
      | stale h hd h1 => rcases hd with hd | ⟨_, _, hd⟩ <;> cases hd
    obtain ⟨vs, rfl, hlen, hp⟩ := hcaps
    obtain ⟨ds', hq, hl2, hp2⟩ := lendCs_ok h vs caps hlen hp (fun j o hj => hJ (.lp j o) j (by simp only [own0, List.mem_filter]; exact ⟨hj, rfl⟩) rfl) hl
    exact ⟨_, hq, .fn hl2 hp2⟩
  | nl => rw [hr.nl_inv]; exact ⟨_, hl, .nl⟩
  | junk => exact ⟨_, hl, .junk⟩
theorem lendL_ok {J : List Nat} (h : Rep A0 w0 n os s a w) : ∀ (vs : List Value) (ds : List DV) {Q : List DV → Prop}, vs.length = ds.length → (∀ (i : Nat) v d, vs[i]? = some v → ds[i]? = some d → RepV (avoid A0 os) os w v d) → (∀ e j, e ∈ ds.flatMap own0 → hIx e = some j → j ∈ J) → lendL s.loc ds Q →
    ∃ ds', Q ds' ∧ vs.length = ds'.length ∧ ∀ (i : Nat) v d, vs[i]? = some v → ds'[i]? = some d → Imm (avoidX A0 os J) w v d
  | [], [], Q, _, _, _, hl => ⟨[], hl, rfl, by simp⟩
  | [], _ :: _, Q, h1, _, _, _ => by simp at h1
  | _ :: _, [], Q, h1, _, _, _ => by simp at h1
  | v :: vs, d :: ds, Q, h1, hr, hJ, hl => by
    obtain ⟨d', hl, hi⟩ := lend0_ok h (hr 0 v d rfl rfl) (fun e j he hj => hJ e j (by simp [List.flatMap_cons, he]) hj) hl
    obtain ⟨ds', hq, hlen, hp⟩ := lendL_ok h vs ds (by simpa using h1) (fun i v d hv hd => hr (i + 1) v d (by simpa using hv) (by simpa using hd)) (fun e j he hj => hJ e j (by rw [List.flatMap_cons]; exact List.mem_append.2 (.inr he)) hj) hl
    refine ⟨d' :: ds', hq, by simp [hlen], fun i v' e hv he => ?_⟩
    cases i with
    | zero => simp at hv he; subst hv he; exact hi
    | succ i => exact hp i v' e (by simpa using hv) (by simpa using he)
theorem lend_ok {J : List Nat} {x : Value} {d : DV} {Q : DV → Prop} (h : Rep A0 w0 n os s a w) (hr : RepV (avoid A0 os) os w x d) (hJ : ∀ e j, e ∈ owns [d] → hIx e = some j → j ∈ J) (hl : lend s.loc d Q) : ∃ d', Q d' ∧ Imm (avoidX A0 os J) w x d' := by
  by_cases hd : ∃ cs, d = .agg cs
  · obtain ⟨cs, rfl⟩ := hd
    obtain ⟨vs, rfl, hlen, hone, hp⟩ := hr.agg_inv
    obtain ⟨ds', hq, hl2, hp2⟩ := lendL_ok h vs cs hlen hp (fun e j he hj => hJ e j (by
      simp only [owns, List.append_nil]
      exact he) hj) hl
    exact ⟨_, hq, .agg hl2 hone hp2⟩
  · have h1 : lend s.loc d Q = lend0 s.loc d Q := by cases d <;> first | rfl | exact absurd ⟨_, rfl⟩ hd
    rw [h1] at hl
    have h2 : owns [d] = own0 d := by cases d <;> first | exact absurd ⟨_, rfl⟩ hd | simp [owns]
    exact lend0_ok h hr (fun e j he hj => hJ e j (by rw [h2]; exact he) hj) hl
theorem owns_cons (d : DV) (r : List DV) : owns (d :: r) = owns [d] ++ owns r := by
  cases d <;> simp [owns]
theorem lendA_ok {J : List Nat} (h : Rep A0 w0 n os s a w) : ∀ (vs : List Value) (ds : List DV) {Q : List DV → Prop}, vs.length = ds.length → (∀ (i : Nat) v d, vs[i]? = some v → ds[i]? = some d → RepV (avoid A0 os) os w v d) → (∀ e j, e ∈ owns ds → hIx e = some j → j ∈ J) → lendA s.loc ds Q →
    ∃ ds', Q ds' ∧ ImmAll (avoidX A0 os J) w vs ds'
  | [], [], Q, _, _, _, hl => ⟨[], hl, trivial⟩
  | [], _ :: _, Q, h1, _, _, _ => by simp at h1
  | _ :: _, [], Q, h1, _, _, _ => by simp at h1
  | v :: vs, d :: ds, Q, h1, hr, hJ, hl => by
    obtain ⟨d', hl, hi⟩ := lend_ok h (hr 0 v d rfl rfl) (fun e j he hj => hJ e j (by rw [owns_cons]; exact List.mem_append.2 (.inl he)) hj) hl
    obtain ⟨ds', hq, hp⟩ := lendA_ok h vs ds (by simpa using h1) (fun i v d hv hd => hr (i + 1) v d (by simpa using hv) (by simpa using hd)) (fun e j he hj => hJ e j (by rw [owns_cons]; exact List.mem_append.2 (.inr he)) hj) hl
    exact ⟨d' :: ds', hq, hi, hp⟩
theorem Imm.le {x : Value} {d d' : DV} (hd : dle d d') (h : Imm A w x d) : Imm A w x d' := by
  induction hd generalizing x with
  | refl => exact h
  | @nil sz sz' f f' hf =>
    cases h with
    | lst xs hn hc hm hff hsz hA hb hone hcell hx => exact .lst xs hn hc hm (fun e => hff (hf e)) (by simp) (fun h => absurd rfl h) (fun h => absurd rfl h) hone (by simp) (by simp)
    | nil => exact .nil
  | nl => cases h; exact .nil
  | lst =>
    cases h with
    | lst xs hn hc hm hff hsz hA hb hone hcell hx => exact .lst xs hn hc hm (by simp) hsz hA hb hone hcell hx
    | nil => exact .nil
  | @rows sz es es' f hl hr hh ih =>
    cases h with
    | lst xs hn hc hm hff hsz hA hb hone hcell hx =>
      have get : ∀ {i : Nat} {r' : List DV}, es'[i]? = some r' → ∃ r, es[i]? = some r ∧ r.length = r'.length := fun {i r'} h => by
        have hi := (List.getElem?_eq_some_iff.1 h).1
        exact ⟨es[i]'(by omega), List.getElem?_eq_getElem (by omega), hr i _ _ (List.getElem?_eq_getElem (by omega)) h⟩
      have ne : es' ≠ [] → es ≠ [] := fun h e => by subst e; simp at hl; exact h (List.length_eq_zero_iff.1 hl.symm)
      refine .lst xs (by omega) hc hm hff (fun e he => ?_) (fun h => hA (ne h)) (fun h => hb (ne h)) hone (fun i j e d he hd => ?_) (fun i j e d he hd => ?_)
      · obtain ⟨i, hi, rfl⟩ := List.getElem_of_mem he
        obtain ⟨r, h1, h2⟩ := get (List.getElem?_eq_getElem hi)
        rw [← h2]
        exact hsz r (List.mem_of_getElem? h1)
      · obtain ⟨r, h1, h2⟩ := get he
        have hj := (List.getElem?_eq_some_iff.1 hd).1
        exact hcell i j r _ h1 (List.getElem?_eq_getElem (by omega))
      · obtain ⟨r, h1, h2⟩ := get he
        have hj := (List.getElem?_eq_some_iff.1 hd).1
        have hc := List.getElem?_eq_getElem (l := r) (i := j) (by omega)
        exact ih i j r e _ d h1 he hc hd (hx i j r _ h1 hc)
    | nil =>
      have : es' = [] := List.length_eq_zero_iff.1 (by simpa using hl.symm)
      subst this
      exact .nil
  | @agg cs ds hl hh ih =>
    cases h with
    | agg hl' hone hp =>
      refine .agg (hl'.trans hl) hone (fun i v d hv hd => ?_)
      have hi : i < cs.length := by
        have := (List.getElem?_eq_some_iff.1 hd).1
        omega
      exact ih i cs[i] d (List.getElem?_eq_getElem hi) hd (hp i v _ hv (List.getElem?_eq_getElem hi))
  | @tup cs ds hl hh ih =>
    cases h with
    | tup hl' hp =>
      refine .tup (hl'.trans hl) (fun i v d hv hd => ?_)
      have hi : i < cs.length := by
        have := (List.getElem?_eq_some_iff.1 hd).1
        omega
      exact ih i cs[i] d (List.getElem?_eq_getElem hi) hd (hp i v _ hv (List.getElem?_eq_getElem hi))
  | junk => exact .junk
theorem ImmAll.le : ∀ {vs : List Value} {ds ds' : List DV}, DleAll ds ds' → ImmAll A w vs ds → ImmAll A w vs ds'
  | [], [], [], _, _ => trivial
  | [], [], _ :: _, h, _ => h.elim
  | [], _ :: _, _, _, h => h.elim
  | _ :: _, [], _, _, h => h.elim
  | v :: vs, d :: ds, [], h, _ => h.elim
  | v :: vs, d :: ds, e :: es, h, hi => ⟨hi.1.le h.1, ImmAll.le h.2 hi.2⟩
theorem scalar_imm {A' : Nat → Prop} {x : Value} {d : DV} (hs : scalar d = true) (h : Imm A w x d) : Imm A' w x d := by
  have one : ∀ {x : Value} {d : DV}, scalar0 d = true → Imm A w x d → Imm A' w x d := by
    intro x d hs h
    cases d <;> simp [scalar0] at hs
    cases h with
    | v h => exact .v h
  have agg : ∀ {x : Value} {cs : List DV}, cs.all scalar0 = true → Imm A w x (.agg cs) → Imm A' w x (.agg cs) := by
    intro x cs hs h
    cases h with
    | agg hl hone hp => exact .agg hl hone (fun i v d hv hd => one (List.all_eq_true.1 hs d (List.mem_of_getElem? hd)) (hp i v d hv hd))
  cases d <;> simp only [scalar, Bool.false_eq_true] at hs
  · cases h with
    | v h => exact .v h
  · exact agg hs h
  · cases h with
    | tup hl hp =>
      refine .tup hl (fun i v d hv hd => ?_)
      have := List.all_eq_true.1 hs d (List.mem_of_getElem? hd)
      have hi := hp i v d hv hd
      cases d <;> simp at this
      · cases hi with
        | v h => exact .v h
      · exact agg (by simpa using this) hi
end
end Go.Lift
