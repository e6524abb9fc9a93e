/- A data-level logic for the model: what a body does to data; its soundness (part LiftN). No conditions. -/
import Derived.Test.YthdpjinchanceaaLiftM
set_option linter.unusedSimpArgs false
set_option linter.unusedVariables false
namespace Go.Lift
open Go

/-! # Regions whose order is drawn: any operation -/
section
variable {P : Program} {tt : TT} {A0 : Nat → Prop} {w0 : World} {n : Nat} {os : Objs} {s s' : DS} {a : Act} {w : World} {o : Oper} {A : Nat → Prop} {B : Nat} {ρ : Operand → DV} {loc loc' : List LObj} {Q : Option Prop → DV → Prop} {ops : Array Oper}
variable {E : Exit → Act → World → Prop} {idx : Nat}

theorem elems_gen {size : Nat} : ∀ {l : List (Nat × Operand)} {es : List (List DV)} {K : List (List DV) → Prop}, elemsK ρ size l es K → ∃ es', K es' ∧ ∀ K', K' es' → elemsK ρ size l es K'
  | [], es, K, h => ⟨es, h, fun _ h' => h'⟩
  | (i, x) :: r, es, K, h => by
    have h := frc_iff.1 h
    split at h
    · rename_i hb
      obtain ⟨es', h1, h2⟩ := elems_gen h
      refine ⟨es', h1, fun K' h' => ?_⟩
      unfold elemsK
      refine frc_iff.2 ?_
      simp only [hb]
      exact h2 K' h'
    · exact h.elim
theorem runs_buildSlice (hT : tabOk P tt = true) {t e : TypeId} {m : Nat} {parts : Array (Nat × Operand)} {K : List (List DV) → Prop} (ho : o.op = .buildSlice t m parts) (hk : (tinfo tt t).k = .slc e) (hs : (tinfo tt e).size ≠ 0) (hle : m * (tinfo tt e).size ≤ 16777216) (hf : freeAt s.loc idx = true)
    (hd : ∀ t, o.dst = some t → t < n) (hK : elemsK (ev s) (tinfo tt e).size parts.toList (List.replicate m (tinfo tt e).zero) K) :
    ∃ es, K es ∧ Runs P A0 w0 n o ⟨dputs o.dst (.own idx), [], some (idx, .row e (tinfo tt e).size es)⟩ s E := by
  obtain ⟨es, hes, hgen⟩ := elems_gen hK
  refine ⟨es, hes, ?_⟩
  intro os' s' a w h he hl hlen
  obtain ⟨hlt, hdead⟩ := freeAt_iff hf
  have hdead : lget s'.loc idx = .dead := (hl idx (.inr ⟨_, rfl⟩)).trans hdead
  obtain ⟨y, hiy⟩ := free_os h hdead (by omega)
  obtain ⟨i, hi, hsz, hby, z, hz, hzo, hzl⟩ := tab_size hT hs
  have hu := tab_slc hT hk
  obtain ⟨h1, h2, h3⟩ := zOk_all (A := avoid A0 os') (w := w) hzo
  have hcr : CellsRep (avoid A0 os') os' w z.cells (tinfo tt e).zero := ⟨by simpa using h1, h2, fun i v d hv hd => .imm (h3 i v d (by simpa using hv) hd)⟩
  have hpos := Nat.pos_of_ne_zero hs
  have hrow := made_row (N := m) (m := m) hcr (fun i v d hv hd => h3 i v d (by simpa using hv) hd) (by omega) (Nat.le_refl _)
  rw [hzl] at hrow
  have hml : (madeCells z.cells (m * (tinfo tt e).size)).toList.length = m * (tinfo tt e).size := (Array.length_toList (xs := madeCells z.cells (m * (tinfo tt e).size))).trans (size_madeCells _ _)
  rw [List.take_of_length_le (by rw [hml]; exact Nat.le_refl _)] at hrow
  obtain ⟨cells', es', hK, hfill, hrep, hlen'⟩ := elems_loop (a := a) (os := os') hpos parts.toList _ _ hrow (ρ := ev s) (fun p hp => by
    have hm : p.2 ∈ o.op.operands.toList := by
      rw [ho]
      simp only [Op.operands, List.mem_map]
      exact ⟨p, hp, rfl⟩
    have := h.ev p.2
    rwa [he _ hm] at this) (hgen (fun es' => es' = es) rfl)
  subst hK
  rw [List.length_replicate] at hlen'
  have hcs : cells'.size = m * (tinfo tt e).size := by have := hrep.len; rw [hlen'] at this; simpa using this
  have hm : m ≤ maxLen := by
    have h2 : m * 1 ≤ m * (tinfo tt e).size := Nat.mul_le_mul_left _ hpos
    simp only [maxLen]
    omega
  have hown := World.ownsRow_lit (base := w0.heap.size) (e := e) (size := (tinfo tt e).size) w cells' m h.gr.size hm hcs
  have hp := h.revive (x := .slice (some ⟨w.heap.size, 0, none⟩) m m) (ob := .row e (tinfo tt e).size es') (w' := w.alloc (.cells cells' e)) hiy (World.grownBy_alloc w (.cells cells' e) none) (fun b hb => by simp [blk] at hb; omega)
    (fun k ha => row_obj (by rw [hlen']; exact hown) hpos (hrep.keep k))
  refine wp_value (x := .slice (some ⟨w.heap.size, 0, none⟩) m m) (w' := w.alloc (.cells cells' e)) ?_ (Nx.put hp hd (.own (List.getElem?_set_self (List.getElem?_eq_some_iff.1 hiy).1) rfl) putK_app')
  have hparts : (parts.map fun (i, x) => (i, a.eval x)).toList = parts.toList.map fun p => (p.1, a.eval p.2) := by cases parts; simp
  have hbig : ¬ (m * (tinfo tt e).size > 2 ^ 24) := by omega
  by_cases hz0 : m * (tinfo tt e).size = 0
  · have hfill0 : Instr.fill (fun i => some (i * (tinfo tt e).size, (tinfo tt e).size)) (madeCells #[] (m * (tinfo tt e).size)) (parts.toList.map fun p => (p.1, a.eval p.2)) = some cells' := by
      rw [← hfill]
      congr 1
      rw [hz0]
      simp [madeCells]
    simp only [execOp, ho, Instr.buildSlice, Sem.run_bind, run_underlying hu, Result.andThen_ok, run_sizeOf_tab hT hs, if_neg hbig, if_pos hz0, Sem.run_pure, hparts]
    simp only [madeCells] at hfill0
    simp only [hfill0, Sem.run_bind, newRow, run_newObj, Result.andThen_ok, Sem.run_pure, World.alloc_eq]
  · have hzr : (zeroValue e).run P w = .ok z w := by simp [zeroValue, typeInfo, hi, hz]
    simp only [madeCells] at hfill
    simp only [execOp, ho, Instr.buildSlice, Sem.run_bind, run_underlying hu, Result.andThen_ok, run_sizeOf_tab hT hs, if_neg hbig, if_neg hz0, hzr, Sem.run_pure, hparts]
    simp only [hfill, Sem.run_bind, newRow, run_newObj, Result.andThen_ok, Sem.run_pure, World.alloc_eq]

theorem runs_makeSlice (hT : tabOk P tt = true) {t e : TypeId} {l c : Operand} {kl kc : IntKind} {m N : Nat} (ho : o.op = .makeSlice t l c) (hk : (tinfo tt t).k = .slc e) (hs : (tinfo tt e).size ≠ 0) (hf : freeAt s.loc idx = true)
    (hd : ∀ t, o.dst = some t → t < n) (el : ev s l = .v (.int kl m)) (ec : ev s c = .v (.int kc N)) (hmN : m ≤ N) (hb : N * (tinfo tt e).bytes ≤ 140737488355328) (hM : N ≤ maxLen) :
    Runs P A0 w0 n o ⟨dputs o.dst (.own idx), [], some (idx, .row e (tinfo tt e).size (List.replicate m (tinfo tt e).zero))⟩ s E := by
  intro os' s' a w h he hl' hlen0
  obtain ⟨hlt, hdead⟩ := freeAt_iff hf
  have hdead : lget s'.loc idx = .dead := (hl' idx (.inr ⟨_, rfl⟩)).trans hdead
  obtain ⟨y, hiy⟩ := free_os h hdead (by omega)
  have hl : a.eval l = .int kl m := by
    have := h.ev l
    rw [he l (by rw [ho]; simp [Op.operands]), el] at this
    exact this.v_inv.1
  have hc : a.eval c = .int kc N := by
    have := h.ev c
    rw [he c (by rw [ho]; simp [Op.operands]), ec] at this
    exact this.v_inv.1
  obtain ⟨i, hi, hsz, hby, z, hz, hzo, hzl⟩ := tab_size hT hs
  have hu := tab_slc hT hk
  obtain ⟨h1, h2, h3⟩ := zOk_all (A := avoid A0 os') (w := w) hzo
  have hcr : CellsRep (avoid A0 os') os' w z.cells (tinfo tt e).zero := ⟨by simpa using h1, h2, fun i v d hv hd => .imm (h3 i v d (by simpa using hv) hd)⟩
  have hM' : (N : Int) ≤ 9223372036854775807 := by simp only [maxLen] at hM; omega
  have hrun := run_make (P := P) w t e i z hu hi hz kl kc m N (by omega) (by omega) (by
    have : ((i.bytes * N : Nat) : Int) ≤ 281474976710656 := by rw [hby, Nat.mul_comm]; omega
    rwa [Int.natCast_mul] at this) hM'
  simp only [Int.toNat_natCast, hsz] at hrun
  have hpos := Nat.pos_of_ne_zero hs
  have hrow := made_row (N := N) (m := m) hcr (fun i v d hv hd => h3 i v d (by simpa using hv) hd) (by omega) hmN
  rw [hzl] at hrow
  have hlen : (List.replicate m (tinfo tt e).zero).length = m := by simp
  have hp := h.revive (w' := w.alloc (.cells (madeCells z.cells (N * (tinfo tt e).size)) e)) (x := .slice (some ⟨w.heap.size, 0, none⟩) m N) (ob := .row e (tinfo tt e).size (List.replicate m (tinfo tt e).zero)) hiy (World.grownBy_alloc w _ none) (fun b hb => by simp [blk] at hb; omega)
    (fun k ha => row_obj (xs := (madeCells z.cells (N * (tinfo tt e).size)).toList.take (m * (tinfo tt e).size)) ⟨by rw [hrow.len], .inr ⟨w.heap.size, N, _, by rw [hlen], h.gr.size, heap_alloc_new w _, by rw [hlen]; exact hmN, hM, size_madeCells _ _, by rw [hlen]⟩⟩ hpos (hrow.keep k))
  refine wp_value (x := .slice (some ⟨w.heap.size, 0, none⟩) m N) (w' := w.alloc (.cells (madeCells z.cells (N * (tinfo tt e).size)) e)) ?_ (Nx.put hp hd (.own (List.getElem?_set_self (List.getElem?_eq_some_iff.1 hiy).1) rfl) putK_app')
  simp only [execOp, ho, hl, hc, Sem.run_bind, hrun, Result.andThen_ok, Sem.run_pure]

theorem plain_owns {d : DV} (h : plainAll (dcells d) = true) : owns [d] = [] := by
  cases d
  case agg cs =>
    have h : plainAll cs = true := h
    have hm := plainAll_mem h
    simp only [owns, List.append_nil]
    rw [List.filter_eq_nil_iff]
    intro d hd
    have := hm d hd
    cases d <;> simp [isPlain0] at this ⊢
  case own => simp [dcells, plainAll, isPlain0] at h
  all_goals rfl
theorem runs_store (hT : tabOk P tt = true) {t : TypeId} {x y : Operand} {d : DV} {K : TE → Prop} (ho : o.op = .store t x y) (hd : ∀ t, o.dst = some t → t < n) (ed : ev s y = d) (h1 : ∀ b d', d ≠ .wh b d') (h2 : ∀ l, d ≠ .tup l) (h3 : d ≠ .junk) (hK : rStore tt s o.dst t x d K) : ∃ te, K te ∧ Runs P A0 w0 n o te s E := by
  have mk : ∀ (te : TE), (∀ s' : DS, ev s' x = ev s x → ev s' y = d → (∀ k, (k ∈ te.rd ∨ te.obj k) → lget s'.loc k = lget s.loc k) → dStore tt s' o.dst t x y d (fun s'' => s'' = te.app s')) → Runs P A0 w0 n o te s E := by
    intro te hte os' s' a w hr he hl hlen
    have e1 := he x (by rw [ho]; simp [Op.operands])
    have e2 := (he y (by rw [ho]; simp [Op.operands])).trans ed
    exact dStore_ok hT ho hr hd e2 h1 h2 h3 (hte s' e1 e2 hl)
  unfold rStore at hK
  split at hK
  · exact hK.elim
  · rename_i hs
    obtain ⟨mz, hmz⟩ := Nat.exists_eq_succ_of_ne_zero hs
    rw [hmz] at hK
    split at hK
    · rename_i i off ex
      split at hK
      · rename_i t' cs hl
        split at hK
        · exact hK.elim
        · rename_i hb
          refine ⟨_, hK, mk _ (fun s' e1 e2 hl' => ?_)⟩
          have hl2 := (hl' i (.inl (by simp))).trans hl
          unfold dStore
          simp only [e1, ex, hl2, hb, hmz]
          exact putK_app'
      · exact hK.elim
    · rename_i i off ex
      split at hK
      · rename_i t' cs hl
        split at hK
        · rename_i hb
          refine ⟨_, hK.2, mk _ (fun s' e1 e2 hl' => ?_)⟩
          have hl2 := (hl' i (.inl (by simp))).trans hl
          unfold dStore
          simp only [e1, ex, hl2, hb, hmz]
          exact ⟨hK.1, putK_app'⟩
        · exact hK.elim
      · exact hK.elim
    · rename_i i k off ex
      split at hK
      · rename_i e sz es hp hl
        obtain ⟨ed', hed, hK⟩ := hK
        split at hK
        · rename_i hb
          refine ⟨_, hK, mk _ (fun s' e1 e2 hl' => ?_)⟩
          have hl2 := (hl' i (.inl (by simp))).trans hl
          unfold dStore
          simp only [e1, ex, hmz]
          rw [plain_owns hp]
          show frc (ev s' y) (fun d_1 => dStoreRow tt s' o.dst t (ev s' x) d_1 _)
          refine frc_iff.2 ?_
          rw [e2, e1, ex]
          unfold dStoreRow
          simp only [hp, hl2]
          refine ⟨ed', hed, ?_⟩
          simp only [hmz, hb]
          exact putK_app'
        · exact hK.elim
      · exact hK.elim
    · exact hK.elim

theorem rop1_ok (hT : tabOk P tt = true) (h0 : (tinfo tt 0).size = 0) (hd : ∀ t, o.dst = some t → t < n) {K : TE → Nat → Prop} (h : rop1 tt P o idx s K) : ∃ te idx', K te idx' ∧ Runs P A0 w0 n o te s E := by
  unfold rop1 at h
  split at h
  · obtain ⟨c, d, hK, hgen⟩ := gen_dval _ h
    obtain ⟨hc, hK⟩ := needs_iff.1 hK
    exact ⟨_, _, hK, runs_val (wrap := fun d => d) hT h0 hd hgen hc (fun h => h) (fun h => h)⟩
  · split at h
    · rename_i t ho
      split at h
      · rename_i m hs hf
        exact ⟨_, _, h, runs_alloc hT ho hd (by omega) hf⟩
      · exact h.elim
    · rename_i t x y ho
      have h := frc_cases h
      split at h
      · exact h.elim
      · exact h.elim
      · exact h.elim
      · rename_i d h1 h2 h3
        obtain ⟨te, hK, hr⟩ := runs_store (A0 := A0) (w0 := w0) (E := E) hT ho hd rfl (fun b d' e => h1 b d' e) (fun l e => h2 l e) (fun e => h3 e) h
        exact ⟨te, _, hK, hr⟩
    · rename_i t m parts ho
      split at h
      · rename_i e hk
        split at h
        · rename_i m1 hs hb hf
          obtain ⟨es, hK, hr⟩ := runs_buildSlice (A0 := A0) (w0 := w0) (E := E) hT ho hk (by omega) (Nat.le_of_ble_eq_true hb) hf hd h
          exact ⟨_, _, hK, hr⟩
        · exact h.elim
      · exact h.elim
    · rename_i t l c ho
      split at h
      · rename_i e hk
        split at h
        · rename_i m1 kl lv kc cv hs el ec hf
          obtain ⟨m, N, rfl, rfl, hmN, hb, hM, hK⟩ := h
          exact ⟨_, _, hK, runs_makeSlice hT ho hk (by omega) hf hd el ec hmN hb hM⟩
        · exact h.elim
      · exact h.elim
    · rename_i f args ats ho
      split at h
      · rename_i k caps ef
        have h := evL_elim h
        obtain ⟨l1, ⟨l', r, hle, hret, hK⟩, hgen⟩ := lendA_loc h
        have run := fun hs => runs_call (P := P) (w0 := w0) (E := E) (wrap := fun d => d) (A0 := A0) (ρ := ev s) ho hd (fun h => h) ef (fun h => h) hgen hle hret hs
        split at hK
        · rename_i hs
          exact ⟨_, _, hK, run (.inl hs)⟩
        · split at hK
          · rename_i hs
            exact ⟨_, _, hK, run (.inr hs)⟩
          · exact hK.elim
      · exact h.elim
    · exact h.elim

/-- what is passed over -/
def Skips (A0 : Nat → Prop) (w0 : World) (n : Nat) (o : Oper) (te : TE) : Prop :=
  ∀ (os' : Objs) (s' : DS) (a : Act) (w : World), Rep A0 w0 n os' s' a w → Nx A0 w0 n (fun s'' => s'' = te.app s') (a.put o.dst undef) w
theorem skips_gone (hd : ∀ t, o.dst = some t → t < n) {d : DV} {rd : List Nat} : Skips A0 w0 n o ⟨dputs o.dst (.wh false d), rd, none⟩ := fun os' s' a w h => Nx.put h hd rep_gone putK_app
theorem ropG_ok (hT : tabOk P tt = true) (h0 : (tinfo tt 0).size = 0) (hd : ∀ t, o.dst = some t → t < n) {g : Bool} {K : TE → Nat → Prop} (h : ropG tt P o g idx s K) :
    ∃ te idx', K te idx' ∧ (g = true → Runs P A0 w0 n o te s E) ∧ (g = false → Skips A0 w0 n o te) := by
  unfold ropG at h
  split at h
  · rename_i c x y ho
    obtain ⟨c', d, hK, hgen⟩ := gen_dgPick _ h
    obtain ⟨hc, hK⟩ := needs_iff.1 hK
    refine ⟨_, _, hK, fun hg => ?_, fun hg => by subst hg; exact skips_gone hd⟩
    subst hg
    intro os' s' a w hr he hl _
    have hop : ∀ z ∈ o.op.operands.toList, RepV (avoid A0 os') os' w (a.eval z) (ev s z) := fun z hz => by rw [← he z hz]; exact hr.ev z
    rw [ho] at hop
    obtain ⟨_, _, ⟨rfl, rfl⟩, hg⟩ := dgPick_ok (P := P) (A := avoid A0 os') (os := os') (w := w) (a := a) ho (fun hR => by
      obtain ⟨c0, hR, hh⟩ := oblAll_ok2 hR
      exact ⟨c0, hR, fun hc => hh (fun z hz => hop z (by simp [Op.operands] at hz ⊢; exact .inl hz)) hc rfl _ (by simp)⟩) (hop x (by simp [Op.operands])) (hop y (by simp [Op.operands])) (hgen (fun c2 d' => c2 = c' ∧ d' = d) ⟨rfl, rfl⟩)
    obtain ⟨x, hrun, hrx⟩ := hg hc
    exact wp_value hrun (Nx.put hr hd (.wh (fun _ => hrx) (fun e => by cases e)) putK_app)
  · split at h
    · obtain ⟨c0, h, hob⟩ := oblAll_ok2 h
      obtain ⟨c, d, hK, hgen⟩ := gen_dval _ h
      obtain ⟨hc, hK⟩ := needs_iff.1 hK
      refine ⟨_, _, hK, fun hg => ?_, fun hg => by subst hg; exact skips_gone hd⟩
      subst hg
      obtain ⟨hc0, hc1⟩ := Holds.andO.1 hc
      have hcc : Holds c := by
        cases c with
        | none => exact Holds.none'
        | some p => exact Holds.some_iff.2 (Holds.some_iff.1 hc1 rfl)
      exact runs_val (wrap := .wh true) hT h0 hd hgen hcc (fun h => hob h hc0 rfl) (fun h => .wh (fun _ => h) (fun e => by cases e))
    · split at h
      · rename_i f args ats ho
        split at h
        · rename_i k caps ef
          obtain ⟨c0, h, hob⟩ := oblAll_ok2 h
          have h := evL_elim h
          obtain ⟨l1, ⟨l', r, hle, hret, hK⟩, hgen⟩ := lendA_loc h
          obtain ⟨hc0, hK⟩ := needs_iff.1 hK
          have run := fun (hg : g = true) hs => runs_call (P := P) (w0 := w0) (E := E) (wrap := .wh true) (A0 := A0) (ρ := bare s) ho hd (fun h => hob h hc0 hg) ef (fun h => .wh (fun _ => h) (fun e => by cases e)) hgen hle (hret hg) hs
          split at hK
          · rename_i hs
            exact ⟨_, _, hK, fun hg => by have := run hg (.inl hs); subst hg; exact this, fun hg => by subst hg; exact skips_gone hd⟩
          · split at hK
            · rename_i hs
              exact ⟨_, _, hK, fun hg => by have := run hg (.inr hs); subst hg; exact this, fun hg => by subst hg; exact skips_gone hd⟩
            · exact hK.elim
        · exact h.elim
      · cases g with
        | true =>
          obtain ⟨te, i, hK, hr⟩ := rop1_ok (A0 := A0) (w0 := w0) (E := E) hT h0 hd h
          exact ⟨te, i, hK, fun _ => hr, fun e => by cases e⟩
        | false =>
          have h : K ⟨dputs o.dst (.wh false (.v (.bool false))), [], none⟩ idx := h
          exact ⟨_, _, h, (fun e => by cases e), fun _ => skips_gone hd⟩

/-! ## guards -/
def RunsW (P : Program) (A0 : Nat → Prop) (w0 : World) (n : Nat) (ops : Array Oper) (o : Oper) (te : TE) (s : DS) (E : Exit → Act → World → Prop) : Prop :=
  ∀ (os' : Objs) (s' : DS) (a : Act) (w : World), Rep A0 w0 n os' s' a w → (∀ t ∈ o.looksAt ops, look s'.env t = look s.env t) → (∀ k, (k ∈ te.rd ∨ te.obj k) → lget s'.loc k = lget s.loc k) → s'.loc.length = s.loc.length →
    if Region.wanted o (yielded ops a.tmps) then o.wp P a w (Nx A0 w0 n fun s'' => s'' = te.app s') E else Nx A0 w0 n (fun s'' => s'' = te.app s') (a.put o.dst undef) w
theorem looks_ev (h : ∀ t ∈ o.looksAt ops, look s'.env t = look s.env t) : ∀ x ∈ o.op.operands.toList, ev s' x = ev s x := by
  intro x hx
  cases x with
  | tmp t =>
    refine h t ?_
    simp only [Oper.looksAt, List.mem_append, List.mem_filterMap]
    exact .inl ⟨_, hx, rfl⟩
  | const v => rfl
  | global g => rfl
  | func f => rfl
theorem looks_guard {j : Nat} {want : Bool} (hg : o.guard = some (j, want)) (h : ∀ t ∈ o.looksAt ops, look s'.env t = look s.env t) : guardOf ops.toList s' j = guardOf ops.toList s j := by
  unfold guardOf
  split
  · rename_i oj hoj
    split
    · rename_i t ht
      refine h t ?_
      simp only [Oper.looksAt, hg, List.mem_append]
      refine .inr ?_
      simp only [Array.getElem?_toList] at hoj
      simp [hoj, ht]
    · rfl
  · rfl
theorem guard_yield {j : Nat} (h : Rep A0 w0 n os s a w) :
    (∀ b, guardOf ops.toList s j = .v (.bool b) → yielded ops a.tmps j = some b) ∧ (∀ g b, guardOf ops.toList s j = .wh g (.v (.bool b)) → (g = true → yielded ops a.tmps j = some b) ∧ (g = false → yielded ops a.tmps j = none)) := by
  have hy : ∀ d, guardOf ops.toList s j = d → d ≠ .junk → ∃ t, (ops[j]?).bind (·.dst) = some t ∧ look s.env t = d := by
    intro d e hj
    unfold guardOf at e
    split at e
    · rename_i oj hoj
      split at e
      · rename_i t ht
        exact ⟨t, by simp only [Array.getElem?_toList] at hoj; simp [hoj, ht], e⟩
      · exact absurd e.symm hj
    · exact absurd e.symm hj
  have some_of : ∀ (t : Nat) (b : Bool), (ops[j]?).bind (·.dst) = some t → a.tmps.getD t undef = .bool b → yielded ops a.tmps j = some b := by
    intro t b ht hv
    have hlt : t < a.tmps.size := by
      rcases Nat.lt_or_ge t a.tmps.size with hlt | hge
      · exact hlt
      · rw [Array.getD_eq_getD_getElem?, Array.getElem?_eq_none hge] at hv
        cases hv
    rw [Array.getD_eq_getD_getElem?, Array.getElem?_eq_getElem hlt] at hv
    simp only [Option.getD_some] at hv
    simp [yielded, ht, hlt, hv]
  refine ⟨fun b e => ?_, fun g b e => ⟨fun hgv => ?_, fun hgv => ?_⟩⟩
  · obtain ⟨t, ht, hlk⟩ := hy _ e (by simp)
    have hv := h.env t
    rw [hlk] at hv
    exact some_of t b ht hv.v_inv.1
  · obtain ⟨t, ht, hlk⟩ := hy _ e (by simp)
    have hv := h.env t
    rw [hlk] at hv
    exact some_of t b ht (hv.wh_inv.1 hgv).v_inv.1
  · obtain ⟨t, ht, hlk⟩ := hy _ e (by simp)
    have hv := h.env t
    rw [hlk] at hv
    have hv := hv.wh_inv.2 hgv
    have : a.tmps[t]? = none ∨ a.tmps[t]? = some undef := by
      rw [Array.getD_eq_getD_getElem?] at hv
      cases ht : a.tmps[t]? with
      | none => exact .inl rfl
      | some v => rw [ht] at hv; exact .inr (by simpa using hv)
    rcases this with h1 | h1 <;> simp [yielded, ht, h1, undef]
theorem rop_ok (hT : tabOk P tt = true) (h0 : (tinfo tt 0).size = 0) (hd : ∀ t, o.dst = some t → t < n) {K : TE → Nat → Prop} (h : rop tt P ops.toList o idx s K) : ∃ te idx', K te idx' ∧ RunsW P A0 w0 n ops o te s E := by
  unfold rop at h
  split at h
  · rename_i hg
    obtain ⟨te, i, hK, hr⟩ := rop1_ok (A0 := A0) (w0 := w0) (E := E) hT h0 hd h
    refine ⟨te, i, hK, fun os' s' a w h1 h2 h3 h4 => ?_⟩
    rw [if_pos (by simp [Region.wanted, hg])]
    exact hr os' s' a w h1 (looks_ev h2) h3 h4
  · rename_i j want hg
    split at h
    · rename_i b e
      obtain ⟨te, i, hK, hr1, hr2⟩ := ropG_ok (A0 := A0) (w0 := w0) (E := E) hT h0 hd (wantK_iff.1 h)
      refine ⟨te, i, hK, fun os' s' a w h1 h2 h3 h4 => ?_⟩
      have hyl := (guard_yield (ops := ops) (j := j) h1).1 b ((looks_guard hg h2).trans e)
      by_cases hb : b = want
      · subst hb
        rw [if_pos (by simp [Region.wanted, hg, hyl])]
        exact hr1 (by cases b <;> rfl) os' s' a w h1 (looks_ev h2) h3 h4
      · rw [if_neg (by simp [Region.wanted, hg, hyl, hb])]
        exact hr2 (by cases b <;> cases want <;> simp at hb ⊢) os' s' a w h1
    · rename_i g b e
      obtain ⟨te, i, hK, hr1, hr2⟩ := ropG_ok (A0 := A0) (w0 := w0) (E := E) hT h0 hd (wantK_iff.1 h)
      refine ⟨te, i, hK, fun os' s' a w h1 h2 h3 h4 => ?_⟩
      have hyl := (guard_yield (ops := ops) (j := j) h1).2 g b ((looks_guard hg h2).trans e)
      cases hgv : g with
      | false =>
        have hyl := hyl.2 hgv
        rw [if_neg (by simp [Region.wanted, hg, hyl])]
        exact hr2 (by simp [hgv]) os' s' a w h1
      | true =>
        have hyl := hyl.1 hgv
        by_cases hb : b = want
        · subst hb
          rw [if_pos (by simp [Region.wanted, hg, hyl])]
          exact hr1 (by rw [hgv]; cases b <;> rfl) os' s' a w h1 (looks_ev h2) h3 h4
        · rw [if_neg (by simp [Region.wanted, hg, hyl, hb])]
          exact hr2 (by rw [hgv]; cases b <;> cases want <;> simp at hb ⊢) os' s' a w h1
    · exact h.elim
end
end Go.Lift
