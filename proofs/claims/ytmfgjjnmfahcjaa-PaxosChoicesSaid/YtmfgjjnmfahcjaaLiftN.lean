/- A data-level logic for the model: what a body does to data; its soundness (part LiftN). No conditions. -/
import Derived.Test.YtmfgjjnmfahcjaaLiftM
set_option linter.unusedSimpArgs false
set_option linter.unusedVariables false
namespace Go.Lift
open Go

/-! # Regions whose order is drawn: any operation -/
section
variable {P : Program} {tt : TT} {A0 : Nat → Prop} {w0 : Home} {n : Nat} {os : Objs} {s s' : DS} {a : Act} {w : World} {o : Oper} {A : Nat → Prop} {B : Home} {ρ : Operand → DV} {loc loc' : List LObj} {Q : Option Prop → DV → Prop} {ops : Array Oper}
variable {E : Exit → Act → World → Prop} {idx : Nat}

theorem elems_gen {size : Nat} : ∀ {l : List (Nat × Operand)} {es : List (List DV)} {K : List (List DV) → Prop}, elemsK ρ size l es K → ∃ es', K es' ∧ ∀ K', K' es' → elemsK ρ size l es K'
  | [], es, K, h => ⟨es, h, fun _ h' => h'⟩
  | (i, x) :: r, es, K, h => by
    have h := frc_iff.1 h
    split at h
    · rename_i hb
      obtain ⟨es', h1, h2⟩ := elems_gen h
      refine ⟨es', h1, fun K' h' => ?_⟩
      unfold elemsK
      refine frc_iff.2 ?_
      simp only [hb]
      exact h2 K' h'
    · exact h.elim
theorem runs_buildSlice (hT : tabOk P tt = true) {t e : TypeId} {m : Nat} {parts : Array (Nat × Operand)} {K : List (List DV) → Prop} (ho : o.op = .buildSlice t m parts) (hk : (tinfo tt t).k = .slc e) (hs : (tinfo tt e).size ≠ 0) (hle : m * (tinfo tt e).size ≤ 16777216) 
    (hd : ∀ t, o.dst = some t → t < n) (hK : elemsK (ev s) (tinfo tt e).size parts.toList (List.replicate m (tinfo tt e).zero) K) :
    ∃ es, K es ∧ Runs P A0 w0 n o ⟨dputs o.dst (.lst (tinfo tt e).size es false), [], [], []⟩ s E := by
  obtain ⟨es, hes, hgen⟩ := elems_gen hK
  refine ⟨es, hes, ?_⟩
  intro os' s' a w h he hl hlen
  obtain ⟨i, hi, hsz, hby, z, hz, hzo, hzl⟩ := tab_size hT hs
  have hu := tab_slc hT hk
  obtain ⟨h1, h2, h3⟩ := zOk_all (A := avoid A0 os') (w := w) hzo
  have hcr : CellsRep (avoid A0 os') os' w z.cells (tinfo tt e).zero := ⟨by simpa using h1, h2, fun i v d hv hd => .imm (h3 i v d (by simpa using hv) hd)⟩
  have hpos := Nat.pos_of_ne_zero hs
  have hrow := made_row (N := m) (m := m) hcr (fun i v d hv hd => h3 i v d (by simpa using hv) hd) (by omega) (Nat.le_refl _)
  rw [hzl] at hrow
  have hml : (madeCells z.cells (m * (tinfo tt e).size)).toList.length = m * (tinfo tt e).size := (Array.length_toList (xs := madeCells z.cells (m * (tinfo tt e).size))).trans (size_madeCells _ _)
  rw [List.take_of_length_le (by rw [hml]; exact Nat.le_refl _)] at hrow
  obtain ⟨cells', es', hK, hfill, hrep, hlen'⟩ := elems_loop (a := a) (os := os') hpos parts.toList _ _ hrow (ρ := ev s) (fun p hp => by
    have hm : p.2 ∈ o.op.operands.toList := by
      rw [ho]
      simp only [Op.operands, List.mem_map]
      exact ⟨p, hp, rfl⟩
    have := h.ev p.2
    rwa [he _ hm] at this) (hgen (fun es' => es' = es) rfl)
  subst hK
  rw [List.length_replicate] at hlen'
  have hcs : cells'.size = m * (tinfo tt e).size := by have := hrep.len; rw [hlen'] at this; simpa using this
  have hm : m ≤ maxLen := by
    have h2 : m * 1 ≤ m * (tinfo tt e).size := Nat.mul_le_mul_left _ hpos
    simp only [maxLen]
    omega
  have hown := World.ownsRow_lit (base := 0) (e := e) (size := (tinfo tt e).size) w cells' m (Nat.zero_le _) hm hcs
  have hg : w.grownBy (w.alloc (.cells cells' e)) none := World.grownBy_alloc w (.cells cells' e) none
  have hob : ObjOk (avoid A0 os') os' w0 (w.alloc (.cells cells' e)) (.slice (some ⟨w.heap.size, 0, none⟩) m m) (.row e (tinfo tt e).size es') :=
    row_obj (fun b hb => Home.mine_new h.gr (by simp [blk] at hb; omega)) (by rw [hlen']; exact hown) hpos (hrep.keep (Keeps.grown hg (fun _ _ h => h)))
  have him : Imm (avoid A0 os') (w.alloc (.cells cells' e)) (.slice (some ⟨w.heap.size, 0, none⟩) m m) (.lst (tinfo tt e).size es' false) := own_lst hob (fun _ h => h) (fun b hb hv => by
    simp [blk] at hb
    subst hb
    rcases hv with hv | ⟨k, x, o', hk, hdd, hbb⟩
    · have := h.a0_lt hv
      omega
    · have := ((h.obj k x o' hk).blk_ge hdd hbb).2
      omega)
  refine wp_value (x := .slice (some ⟨w.heap.size, 0, none⟩) m m) (w' := w.alloc (.cells cells' e)) ?_ (Nx.put (h.grown hg) hd (.imm him) putK_app)
  have hparts : (parts.map fun (i, x) => (i, a.eval x)).toList = parts.toList.map fun p => (p.1, a.eval p.2) := by cases parts; simp
  have hbig : ¬ (m * (tinfo tt e).size > 2 ^ 24) := by omega
  by_cases hz0 : m * (tinfo tt e).size = 0
  · have hfill0 : Instr.fill (fun i => some (i * (tinfo tt e).size, (tinfo tt e).size)) (madeCells #[] (m * (tinfo tt e).size)) (parts.toList.map fun p => (p.1, a.eval p.2)) = some cells' := by
      rw [← hfill]
      congr 1
      rw [hz0]
      simp [madeCells]
    simp only [execOp, ho, Instr.buildSlice, Sem.run_bind, run_underlying hu, Result.andThen_ok, run_sizeOf_tab hT hs, if_neg hbig, if_pos hz0, Sem.run_pure, hparts]
    simp only [madeCells] at hfill0
    simp only [hfill0, Sem.run_bind, newRow, run_newObj, Result.andThen_ok, Sem.run_pure, World.alloc_eq]
  · have hzr : (zeroValue e).run P w = .ok z w := by simp [zeroValue, typeInfo, hi, hz]
    simp only [madeCells] at hfill
    simp only [execOp, ho, Instr.buildSlice, Sem.run_bind, run_underlying hu, Result.andThen_ok, run_sizeOf_tab hT hs, if_neg hbig, if_neg hz0, hzr, Sem.run_pure, hparts]
    simp only [hfill, Sem.run_bind, newRow, run_newObj, Result.andThen_ok, Sem.run_pure, World.alloc_eq]

theorem runs_makeSlice (hT : tabOk P tt = true) {t e : TypeId} {l c : Operand} {kl kc : IntKind} {m N : Nat} (ho : o.op = .makeSlice t l c) (hk : (tinfo tt t).k = .slc e) (hs : (tinfo tt e).size ≠ 0) (hf : freeAt s.loc idx = true)
    (hd : ∀ t, o.dst = some t → t < n) (el : ev s l = .v (.int kl m)) (ec : ev s c = .v (.int kc N)) (hmN : m ≤ N) (hb : N * (tinfo tt e).bytes ≤ 140737488355328) (hM : N ≤ maxLen) :
    Runs P A0 w0 n o ⟨dputs o.dst (.own idx), [], [(idx, .row e (tinfo tt e).size (List.replicate m (tinfo tt e).zero))], []⟩ s E := by
  intro os' s' a w h he hl' hlen0
  obtain ⟨hlt, hdead⟩ := freeAt_iff hf
  have hdead : lget s'.loc idx = .dead := (hl' idx (.inr ⟨_, List.mem_cons_self⟩)).trans hdead
  obtain ⟨y, hiy⟩ := free_os h hdead (by omega)
  have hl : a.eval l = .int kl m := by
    have := h.ev l
    rw [he l (by rw [ho]; simp [Op.operands]), el] at this
    exact this.v_inv.1
  have hc : a.eval c = .int kc N := by
    have := h.ev c
    rw [he c (by rw [ho]; simp [Op.operands]), ec] at this
    exact this.v_inv.1
  obtain ⟨i, hi, hsz, hby, z, hz, hzo, hzl⟩ := tab_size hT hs
  have hu := tab_slc hT hk
  obtain ⟨h1, h2, h3⟩ := zOk_all (A := avoid A0 os') (w := w) hzo
  have hcr : CellsRep (avoid A0 os') os' w z.cells (tinfo tt e).zero := ⟨by simpa using h1, h2, fun i v d hv hd => .imm (h3 i v d (by simpa using hv) hd)⟩
  have hM' : (N : Int) ≤ 9223372036854775807 := by simp only [maxLen] at hM; omega
  have hrun := run_make (P := P) w t e i z hu hi hz kl kc m N (by omega) (by omega) (by
    have : ((i.bytes * N : Nat) : Int) ≤ 281474976710656 := by rw [hby, Nat.mul_comm]; omega
    rwa [Int.natCast_mul] at this) hM'
  simp only [Int.toNat_natCast, hsz] at hrun
  have hpos := Nat.pos_of_ne_zero hs
  have hrow := made_row (N := N) (m := m) hcr (fun i v d hv hd => h3 i v d (by simpa using hv) hd) (by omega) hmN
  rw [hzl] at hrow
  have hlen : (List.replicate m (tinfo tt e).zero).length = m := by simp
  have hp := h.revive (w' := w.alloc (.cells (madeCells z.cells (N * (tinfo tt e).size)) e)) (x := .slice (some ⟨w.heap.size, 0, none⟩) m N) (ob := .row e (tinfo tt e).size (List.replicate m (tinfo tt e).zero)) hiy (World.grownBy_alloc w _ none) (fun b hb => by simp [blk] at hb; omega)
    (fun k ha => row_obj (fun b hb => Home.mine_new h.gr (by simp [blk] at hb; omega)) (xs := (madeCells z.cells (N * (tinfo tt e).size)).toList.take (m * (tinfo tt e).size)) ⟨by rw [hrow.len], .inr ⟨w.heap.size, N, _, by rw [hlen], Nat.zero_le _, heap_alloc_new w _, by rw [hlen]; exact hmN, hM, size_madeCells _ _, by rw [hlen]⟩⟩ hpos (hrow.keep k))
  refine wp_value (x := .slice (some ⟨w.heap.size, 0, none⟩) m N) (w' := w.alloc (.cells (madeCells z.cells (N * (tinfo tt e).size)) e)) ?_ (Nx.put hp hd (.own (List.getElem?_set_self (List.getElem?_eq_some_iff.1 hiy).1) rfl) putK_app')
  simp only [execOp, ho, hl, hc, Sem.run_bind, hrun, Result.andThen_ok, Sem.run_pure]

theorem plain_own0 {d : DV} (h : isPlain0 d = true) : own0 d = [] := by
  cases d
  case fn f caps =>
    simp only [isPlain0, List.all_eq_true] at h
    simp only [own0, List.filter_eq_nil_iff]
    intro d hd
    have := h d hd
    cases d <;> simp [plainCap, isLp] at this ⊢
  all_goals first | rfl | (simp [isPlain0] at h)
theorem plain_owns {d : DV} (h : plainAll (dcells d) = true) : owns [d] = [] := by
  have hm := plainAll_mem h
  by_cases hd : ∃ cs, d = .agg cs
  · obtain ⟨cs, rfl⟩ := hd
    simp only [owns, List.append_nil, List.flatMap_eq_nil_iff]
    exact fun e he => plain_own0 (hm e he)
  · have h1 : dcells d = [d] := by cases d <;> first | rfl | exact absurd ⟨_, rfl⟩ hd
    have h2 : owns [d] = own0 d := by cases d <;> first | exact absurd ⟨_, rfl⟩ hd | simp [owns]
    rw [h2]
    exact plain_own0 (hm d (by rw [h1]; simp))
theorem runs_store (hT : tabOk P tt = true) {t : TypeId} {x y : Operand} {d : DV} {K : TE → Prop} (ho : o.op = .store t x y) (hd : ∀ t, o.dst = some t → t < n) (ed : ev s y = d) (h1 : ∀ b d', d ≠ .wh b d') (h2 : ∀ l, d ≠ .tup l) (h3 : d ≠ .junk) (hK : rStore tt s o.dst t x d K) : ∃ te, K te ∧ Runs P A0 w0 n o te s E := by
  have mk : ∀ (te : TE), (∀ s' : DS, ev s' x = ev s x → ev s' y = d → (∀ k, (k ∈ te.rd ∨ te.obj k) → lget s'.loc k = lget s.loc k) → dStore tt s' o.dst t x y d (fun s'' => s'' = te.app s')) → Runs P A0 w0 n o te s E := by
    intro te hte os' s' a w hr he hl hlen
    have e1 := he x (by rw [ho]; simp [Op.operands])
    have e2 := (he y (by rw [ho]; simp [Op.operands])).trans ed
    exact dStore_ok hT ho hr hd e2 h1 h2 h3 (hte s' e1 e2 hl)
  unfold rStore at hK
  split at hK
  · exact hK.elim
  · rename_i hs
    obtain ⟨mz, hmz⟩ := Nat.exists_eq_succ_of_ne_zero hs
    rw [hmz] at hK
    split at hK
    · rename_i i off ex
      split at hK
      · rename_i t' cs hl
        split at hK
        · exact hK.elim
        · rename_i hb
          refine ⟨_, hK, mk _ (fun s' e1 e2 hl' => ?_)⟩
          have hl2 := (hl' i (.inl (by simp))).trans hl
          unfold dStore
          simp only [e1, ex, hl2, hb, hmz]
          exact putK_app'
      · exact hK.elim
    · rename_i i off ex
      split at hK
      · rename_i t' cs hl
        split at hK
        · rename_i hb
          refine ⟨_, hK.2, mk _ (fun s' e1 e2 hl' => ?_)⟩
          have hl2 := (hl' i (.inl (by simp))).trans hl
          unfold dStore
          simp only [e1, ex, hl2, hb, hmz]
          exact ⟨hK.1, putK_app'⟩
        · exact hK.elim
      · exact hK.elim
    · rename_i i k off ex
      split at hK
      · rename_i e sz es hp hl
        obtain ⟨ed', hed, hK⟩ := hK
        split at hK
        · rename_i hb
          refine ⟨_, hK, mk _ (fun s' e1 e2 hl' => ?_)⟩
          have hl2 := (hl' i (.inl (by simp))).trans hl
          unfold dStore
          simp only [e1, ex, hmz]
          rw [plain_owns hp]
          show frc (ev s' y) (fun d_1 => dStoreRow tt s' o.dst t (ev s' x) d_1 _)
          refine frc_iff.2 ?_
          rw [e2, e1, ex]
          unfold dStoreRow
          simp only [hp, hl2]
          refine ⟨ed', hed, ?_⟩
          simp only [hmz, hb]
          exact putK_app'
        · exact hK.elim
      · exact hK.elim
    · exact hK.elim

theorem news_loc {e : TypeId} {d : DV} {K : List (List DV) → Bool → Prop} (h : dNews tt e loc d K) : ∃ ys sm, K ys sm ∧ ∀ loc', (∀ k ∈ refs d, lget loc' k = lget loc k) → ∀ K' : List (List DV) → Bool → Prop, K' ys sm → dNews tt e loc' d K' := by
  cases d
  case nl => exact ⟨_, _, h, fun _ _ _ h' => h'⟩
  case lst sz es f =>
    unfold dNews at h
    simp only at h
    split at h
    · rename_i hb
      refine ⟨_, _, h, fun loc' _ K' h' => ?_⟩
      unfold dNews
      simp only [hb]
      exact h'
    · exact h.elim
  case own j =>
    unfold dNews at h
    simp only at h
    split at h
    · rename_i e2 sz es hl
      split at h
      · rename_i hb
        refine ⟨_, _, h, fun loc' hll K' h' => ?_⟩
        have := (hll j (by simp [refs, refs0])).trans hl
        unfold dNews
        simp only [this, hb]
        exact h'
      · exact h.elim
    · exact h.elim
  all_goals exact h.elim
theorem runs_box {t : TypeId} {x : Operand} {d : DV} {rd : List Nat} (ho : o.op = .box t x) (hd : ∀ t, o.dst = some t → t < n) (hf : freeAt s.loc idx = true) (e : ev s x = d) (h1 : ∀ b d', d ≠ .wh b d') (h2 : ∀ l, d ≠ .tup l) (h3 : d ≠ .junk) :
    Runs P A0 w0 n o ⟨dputs o.dst (.lp idx 0), rd, [(idx, .cells t (dcells d))], []⟩ s E := by
  intro os' s' a w hr he hl hlen
  obtain ⟨hlt, hdead⟩ := freeAt_iff hf
  have hdead : lget s'.loc idx = .dead := (hl idx (.inr ⟨_, List.mem_cons_self⟩)).trans hdead
  obtain ⟨y, hi⟩ := free_os hr hdead (by omega)
  have hx := hr.ev x
  rw [he x (by rw [ho]; simp [Op.operands]), e] at hx
  obtain ⟨hxl, hone, hp⟩ := hx.cells h1 h2 h3
  have hp := hr.revive (x := .pointer (some ⟨w.heap.size, 0, none⟩)) (ob := .cells t (dcells d)) (w' := w.alloc (.cells (a.eval x).cells t)) hi (World.grownBy_alloc w _ none) (fun b hb => by simp [blk] at hb; omega)
    (fun k ha => ⟨w.heap.size, (a.eval x).cells, rfl, Home.mine_new hr.gr (Nat.le_refl _), heap_alloc_new w _, by simpa using hxl, hone, fun i v d hv hd => (hp i v d (by simpa using hv) hd).keepL k ha⟩)
  refine wp_value (x := .pointer (some ⟨w.heap.size, 0, none⟩)) (w' := w.alloc (.cells (a.eval x).cells t)) ?_ (Nx.put hp hd (.lp (List.getElem?_set_self (List.getElem?_eq_some_iff.1 hi).1)) putK_app')
  simp only [execOp, ho, Instr.box, Sem.run_bind, Result.andThen_ok, newVar, newRow, run_newObj, Sem.run_pure, World.alloc_eq]
theorem runs_append (hT : tabOk P tt = true) {t t' e : TypeId} {x y : Operand} {args : Array Operand} {ats : Array TypeId} {K : TE → Nat → Prop} (ho : o.op = .call { callee := .builtin .append, args := args, argTypes := ats }) (ha : args.toList = [x, y]) (hat : ats.toList = [t, t']) (htt : t = t')
    (hk : (tinfo tt t).k = .slc e) (hs : (tinfo tt e).size ≠ 0) (hd : ∀ t, o.dst = some t → t < n) (hK : rAppend tt e s idx o.dst (ev s x) (ev s y) K) : ∃ te i, K te i ∧ Runs P A0 w0 n o te s E := by
  unfold rAppend at hK
  obtain ⟨ys, sm, hK, hnews⟩ := news_loc hK
  have hpos := Nat.pos_of_ne_zero hs
  have hxm : x ∈ o.op.operands.toList := by rw [ho]; simp [Op.operands, Call.operands]; rw [← Array.mem_toList_iff, ha]; simp
  have hym : y ∈ o.op.operands.toList := by rw [ho]; simp [Op.operands, Call.operands]; rw [← Array.mem_toList_iff, ha]; simp
  have ynews : ∀ {os' : Objs} {s' : DS} {a : Act} {w : World}, Rep A0 w0 n os' s' a w → ev s' y = ev s y → (∀ k ∈ refs (ev s y), lget s'.loc k = lget s.loc k) → NewsOf (avoid A0 os') w (tinfo tt e).size (a.eval y) ys := by
    intro os' s' a w hr he hl
    have h1 := hnews s'.loc hl (fun ys' sm' => ys' = ys ∧ sm' = sm) ⟨rfl, rfl⟩
    rw [hr.loc] at h1
    have hy := hr.ev y
    rw [he] at hy
    obtain ⟨_, _, ⟨rfl, rfl⟩, h2⟩ := news_elim hs hr.obj hy h1
    exact h2
  have exec := fun {a : Act} {w : World} {r : Value} {w' : World} => append_exec (P := P) (w := w) (a := a) (r := r) (w' := w') ho ha hat htt
  split at hK
  · -- nothing
    rename_i ex
    split at hK
    · rename_i hf
      obtain ⟨hfit, hK⟩ := hK
      refine ⟨_, _, hK, fun os' s' a w hr he hl hlen => ?_⟩
      obtain ⟨hlt, hdead⟩ := freeAt_iff hf
      have hdead : lget s'.loc idx = .dead := (hl idx (.inr ⟨_, List.mem_cons_self⟩)).trans hdead
      obtain ⟨z, hi⟩ := free_os hr hdead (by omega)
      have hx := hr.ev x
      rw [he x hxm, ex] at hx
      obtain ⟨v', w', xs, hrun, hown, hg, hb, hrow⟩ := app_nl (P := P) (ty := o.type) hT hk hs hfit (ynews hr (he y hym) (fun k hk => hl k (.inl hk)))
      have hp := hr.revive (x := v') (ob := .row e (tinfo tt e).size ys) hi hg hb (fun k ha => row_obj (fun b hbb => Home.mine_new hr.gr (hb b hbb)) hown hpos (hrow.keep k))
      exact wp_value (exec (by rw [hx.nl_inv]; exact hrun)) (Nx.put hp hd (.own (List.getElem?_set_self (List.getElem?_eq_some_iff.1 hi).1) (own_one hown)) putK_app')
    · exact hK.elim
  · -- a row of the call's own
    rename_i i ex
    split at hK
    · rename_i e3 sz3 es3 hl3
      split at hK
      · rename_i hb3
        simp only [Bool.and_eq_true] at hb3
        have hb1 := Nat.eq_of_beq_eq_true hb3.1.1
        have hb2 := Nat.eq_of_beq_eq_true hb3.1.2
        subst hb1; subst hb2
        have hf := hb3.2
        obtain ⟨hfit, hK⟩ := hK
        refine ⟨_, _, hK, fun os' s' a w hr he hl hlen => ?_⟩
        obtain ⟨hlt, hdead⟩ := freeAt_iff hf
        have hdead : lget s'.loc idx = .dead := (hl idx (.inr ⟨_, List.mem_cons_of_mem _ List.mem_cons_self⟩)).trans hdead
        obtain ⟨z, hq⟩ := free_os hr hdead (by omega)
        have hrow3 := (hl i (.inl (by simp))).trans hl3
        rw [hr.loc] at hrow3
        obtain ⟨xv, hi⟩ := lget_os hrow3 (by simp)
        have hx := hr.ev x
        rw [he x hxm, ex] at hx
        have hxe := hx.own_row hi
        obtain ⟨xs, hown, _, hrr⟩ := obj_row (hr.obj _ _ _ hi)
        obtain ⟨v', w', xs', hrun, hown', hg, hb, hrow⟩ := app_own (P := P) (ty := o.type) hT hk hs hown hrr hfit (ynews hr (he y hym) (fun k hk => hl k (.inl (by simp [hk]))))
        obtain ⟨hp, hself⟩ := hr.regrow hi hq hg hb hown' hpos hrow
        exact wp_value (exec (by rw [hxe]; exact hrun)) (Nx.put hp hd (.own hself (own_one hown')) putK_app2)
      · exact hK.elim
    · exact hK.elim
  · -- a list without spare room
    rename_i sz es ex
    split at hK
    · rename_i hb
      have hb := Nat.eq_of_beq_eq_true hb
      subst hb
      obtain ⟨hfit, hK⟩ := hK
      split at hK
      · split at hK
        · rename_i hf
          obtain ⟨hys, hK⟩ := hK
          refine ⟨_, _, hK, fun os' s' a w hr he hl hlen => ?_⟩
          obtain ⟨hlt, hdead⟩ := freeAt_iff hf
          have hdead : lget s'.loc idx = .dead := (hl idx (.inr ⟨_, List.mem_cons_self⟩)).trans hdead
          obtain ⟨z, hi⟩ := free_os hr hdead (by omega)
          have hx := hr.ev x
          rw [he x hxm, ex] at hx
          obtain ⟨v', w', xs, hrun, hown, hg, hb, hrow⟩ := app_full (P := P) (ty := o.type) hT hk hs hx.lst_inv hfit (ynews hr (he y hym) (fun k hk => hl k (.inl hk))) hys
          have hp := hr.revive (x := v') (ob := .row e (tinfo tt e).size (es ++ ys)) hi hg hb (fun k ha => row_obj (fun b hbb => Home.mine_new hr.gr (hb b hbb)) hown hpos (hrow.keep k))
          exact wp_value (exec hrun) (Nx.put hp hd (.own (List.getElem?_set_self (List.getElem?_eq_some_iff.1 hi).1) (own_one hown)) putK_app')
        · exact hK.elim
      · refine ⟨_, _, hK, fun os' s' a w hr he hl hlen => ?_⟩
        have hx := he x hxm
        rw [ex] at hx
        refine append_ok hT ho ha hat htt hk hs hr hd ?_
        rw [hx, he y hym]
        unfold dAppend
        refine hnews s'.loc (fun k hk => hl k (.inl hk)) _ ?_
        simp only [Nat.beq_refl]
        exact ⟨hfit, putK_app⟩
    · exact hK.elim
  · exact hK.elim
theorem runs_copy (hT : tabOk P tt = true) {t t' e : TypeId} {x y : Operand} {args : Array Operand} {ats : Array TypeId} {K : TE → Prop} (ho : o.op = .call { callee := .builtin .copy, args := args, argTypes := ats }) (ha : args.toList = [x, y]) (hat : ats.toList = [t, t']) (htt : t = t')
    (hk : (tinfo tt t).k = .slc e) (hs : (tinfo tt e).size ≠ 0) (hd : ∀ t, o.dst = some t → t < n) (hK : rCopy tt e s o.dst (ev s x) (ev s y) K) : ∃ te, K te ∧ Runs P A0 w0 n o te s E := by
  unfold rCopy at hK
  obtain ⟨ys, sm, hK, hnews⟩ := news_loc hK
  have hxm : x ∈ o.op.operands.toList := by rw [ho]; simp [Op.operands, Call.operands]; rw [← Array.mem_toList_iff, ha]; simp
  have hym : y ∈ o.op.operands.toList := by rw [ho]; simp [Op.operands, Call.operands]; rw [← Array.mem_toList_iff, ha]; simp
  split at hK
  · rename_i ex
    refine ⟨_, hK, fun os' s' a w hr he hl hlen => ?_⟩
    refine copy_ok hT ho ha hat htt hk hs hr hd ?_
    rw [he x hxm, he y hym, ex]
    unfold dCopy
    exact hnews s'.loc (fun k hk => hl k (.inl hk)) _ putK_app
  · rename_i i ex
    split at hK
    · rename_i e3 sz3 es3 hl3
      split at hK
      · rename_i hb
        refine ⟨_, hK, fun os' s' a w hr he hl hlen => ?_⟩
        refine copy_ok hT ho ha hat htt hk hs hr hd ?_
        rw [he x hxm, he y hym, ex]
        unfold dCopy
        refine hnews s'.loc (fun k hk => hl k (.inl (by simp [hk]))) _ ?_
        have := (hl i (.inl (by simp))).trans hl3
        simp only [this, hb]
        simp only [Bool.and_eq_true] at hb
        have hb1 := Nat.eq_of_beq_eq_true hb.1
        subst hb1
        exact putK_app'
      · exact hK.elim
    · exact hK.elim
  · exact hK.elim
theorem lsets_zip : ∀ (tgt : List Nat) (Ls l : List LObj), lsets l (tgt.zip Ls) = setAll l tgt Ls
  | [], Ls, l => by cases Ls <;> rfl
  | i :: r, [], l => rfl
  | i :: r, o :: Ls, l => by
    rw [List.zip_cons_cons, lsets, setAll]
    exact lsets_zip r Ls _
theorem objsM_loc {ρ : Nat → Nat} : ∀ {p : List Nat} {q : List LObj}, (∀ i ∈ p, lget loc' i = lget loc i) → objsM loc ρ p q → objsM loc' ρ p q
  | [], [], _, h => h
  | [], _ :: _, _, h => h.elim
  | _ :: _, [], _, h => h.elim
  | i :: p, o :: q, hl, h => ⟨by rw [hl i (by simp)]; exact h.1, objsM_loc (fun i hi => hl i (by simp [hi])) h.2⟩
theorem notKept_all : ∀ {p : List Nat} {ks : List Bool}, ks.length = p.length → ks.all (fun b => b) = true → notKept p ks = []
  | [], ks, _, _ => by cases ks <;> rfl
  | i :: p, [], h, _ => by simp at h
  | i :: p, true :: ks, h, hk => by
    rw [notKept]
    exact notKept_all (by simpa using h) (by simpa using hk)
  | i :: p, false :: ks, h, hk => by simp at hk
theorem runs_callM {f : Operand} {k : FuncId} {caps : List DV} {args : Array Operand} {ats : Array TypeId} {K : TE → Nat → Prop} (ho : o.op = .call { callee := .value f, args := args, argTypes := ats }) (hd : ∀ t, o.dst = some t → t < n) (ef : ev s f = .fn (.func k) caps)
    (h : ropM P k (args.toList.map (ev s) ++ caps) s idx o.dst (opRefs (ev s) o.op.operands.toList) K) : ∃ te i, K te i ∧ Runs P A0 w0 n o te s E := by
  obtain ⟨pass, L, args0, kept, L', d, hret, hck, hobj, hdle, hK⟩ := h
  simp only [Bool.and_eq_true] at hck
  obtain ⟨⟨⟨⟨⟨⟨⟨hkept, hgh⟩, hnd⟩, hlt⟩, hba⟩, hbL⟩, hall⟩, hfree⟩ := hck
  refine ⟨_, _, hK, fun os' s' a w hr he hl hlen => ?_⟩
  simp only [List.all_eq_true] at hlt hfree
  obtain ⟨hks, hLL, _⟩ := keptOk_get (k := 0) hkept
  obtain ⟨hpl, _⟩ := objsM_get hobj
  obtain ⟨hdl, hdp⟩ := lenAll hdle
  generalize hnews : from' idx (L'.length - L.length) = news at *
  have hnl : news.length = L'.length - L.length := by rw [← hnews, from_len]
  have inwr : ∀ i ∈ pass ++ news, ∃ ob, (i, ob) ∈ (pass ++ news).zip (L'.map (mvO (nth (pass ++ news)))) := by
    intro i hi
    obtain ⟨q, hq, rfl⟩ := List.getElem_of_mem hi
    have hq2 : q < (L'.map (mvO (nth (pass ++ news)))).length := by
      simp only [List.length_append, List.length_map] at hq ⊢
      omega
    exact ⟨_, List.mem_of_getElem? (i := q) (List.getElem?_zip_eq_some.2 ⟨List.getElem?_eq_getElem hq, List.getElem?_eq_getElem hq2⟩)⟩
  have hloc : ∀ i ∈ pass ++ news, lget s'.loc i = lget s.loc i := fun i hi => hl i (.inr (inwr i hi))
  have hlt : ∀ i ∈ pass, i < s.loc.length := fun i hi => Nat.le_of_ble_eq_true (hlt i hi)
  have hlen' := hr.len
  have hfr : ∀ i ∈ news, ∃ y, os'[i]? = some (y, .dead) := by
    intro i hi
    obtain ⟨h1, h2⟩ := freeAt_iff (hfree i hi)
    exact free_os hr ((hloc i (List.mem_append.2 (.inr hi))).trans h2) (by omega)
  have hobj' := objsM_loc (loc' := s'.loc) (fun i hi => hloc i (List.mem_append.2 (.inl hi))) hobj
  have hops : ∀ x ∈ o.op.operands.toList, RepV (avoid A0 os') os' w (a.eval x) (ev s x) := fun x hx => by rw [← he x hx]; exact hr.ev x
  have hf := hops f (by rw [ho]; simp [Op.operands, Call.operands])
  rw [ef] at hf
  obtain ⟨vs, hv, hvl, hp⟩ := hf.fn_inv
  obtain ⟨h1, h2⟩ := args_rep (os := os') (A := avoid A0 os') (w := w) (a := a) (l := args.toList) (ρ := ev s) rfl (fun x hx => hops x (by rw [ho]; simp only [Op.operands, Call.operands, Array.toList_append, List.mem_append]; exact .inr hx)) hvl hp
  have core := callM_core (pass := pass) (news := news) hr hret hkept hgh (nodupB_iff hnd) (fun i hi => by have := hlt i hi; omega) hfr (by omega) hbL hba hobj' (vals := args.toList.map a.eval ++ vs) (by rw [h1, hdl]; simp) (fun i v d hv hd => by
    have hil := (List.getElem?_eq_some_iff.1 hv).1
    have hli := List.getElem?_eq_getElem (l := args.toList.map (ev s) ++ caps) (i := i) (by omega)
    have hd2 : (args0.map (mvT (nth (pass ++ news))))[i]? = some (mvT (nth (pass ++ news)) d) := by rw [List.getElem?_map, hd]; rfl
    exact ((h2 i v _ hv hli).less (hdp i _ _ hli hd2)).keep (Keeps.less (fun b hb => avoidX_sub hb)) (.refl _))
  rw [notKept_all (by omega) hall] at core
  unfold Oper.wp
  rw [call_exec ho hv hret.1]
  refine core.mono fun e w' hx => ?_
  obtain ⟨v, os2, rfl, hr2, hv2⟩ := hx
  refine Nx.put hr2 hd hv2 ?_
  have e1 : afterC s' (pass ++ news) [] L' = ⟨s'.env, setAll s'.loc (pass ++ news) (L'.map (mvO (nth (pass ++ news))))⟩ := rfl
  rw [e1, ← lsets_zip]
  refine putK_iff.2 ?_
  cases o.dst <;> rfl
theorem rop1_ok (hT : tabOk P tt = true) (h0 : (tinfo tt 0).size = 0) (hd : ∀ t, o.dst = some t → t < n) {K : TE → Nat → Prop} (h : rop1 tt P o idx s K) : ∃ te idx', K te idx' ∧ Runs P A0 w0 n o te s E := by
  unfold rop1 at h
  split at h
  · obtain ⟨c, d, hK, hgen⟩ := gen_dval _ h
    obtain ⟨hc, hK⟩ := needs_iff.1 hK
    exact ⟨_, _, hK, runs_val (wrap := fun d => d) hT h0 hd hgen hc (fun h => h) (fun h => h)⟩
  · split at h
    · rename_i t ho
      split at h
      · rename_i m hs hf
        exact ⟨_, _, h, runs_alloc hT ho hd (by omega) hf⟩
      · exact h.elim
    · rename_i t x ho
      split at h
      · rename_i hf
        have h := frc_cases h
        split at h
        · rename_i cs e
          exact ⟨_, _, h, runs_box (d := .agg cs) ho hd hf e (by simp) (by simp) (by simp)⟩
        · exact h.elim
        · exact h.elim
        · exact h.elim
        · rename_i d h1 h2 h3 h4
          have hdc : dcells (ev s x) = [ev s x] := by
            generalize ev s x = d at *
            cases d <;> first | rfl | exact absurd rfl (h1 _)
          refine ⟨_, _, h, ?_⟩
          rw [← hdc]
          exact runs_box ho hd hf rfl (fun b d' e => h2 b d' e) (fun l e => h3 l e) (fun e => h4 e)
      · exact h.elim
    · rename_i args ats ho
      split at h
      · rename_i x y t t' ha hat
        split at h
        · rename_i e htt hk
          split at h
          · exact h.elim
          · rename_i hs
            exact runs_append hT ho ha hat (Nat.eq_of_beq_eq_true htt) hk hs hd h
        · exact h.elim
      · exact h.elim
    · rename_i args ats ho
      split at h
      · rename_i x y t t' ha hat
        split at h
        · rename_i e htt hk
          split at h
          · exact h.elim
          · rename_i hs
            obtain ⟨te, hK, hr⟩ := runs_copy (A0 := A0) (w0 := w0) (E := E) hT ho ha hat (Nat.eq_of_beq_eq_true htt) hk hs hd h
            exact ⟨te, _, hK, hr⟩
        · exact h.elim
      · exact h.elim
    · rename_i t x y ho
      have h := frc_cases h
      split at h
      · exact h.elim
      · exact h.elim
      · exact h.elim
      · rename_i d h1 h2 h3
        obtain ⟨te, hK, hr⟩ := runs_store (A0 := A0) (w0 := w0) (E := E) hT ho hd rfl (fun b d' e => h1 b d' e) (fun l e => h2 l e) (fun e => h3 e) h
        exact ⟨te, _, hK, hr⟩
    · rename_i t m parts ho
      split at h
      · rename_i e hk
        split at h
        · rename_i m1 hs hb
          obtain ⟨es, hK, hr⟩ := runs_buildSlice (A0 := A0) (w0 := w0) (E := E) hT ho hk (by omega) (Nat.le_of_ble_eq_true hb) hd h
          exact ⟨_, _, hK, hr⟩
        · exact h.elim
      · exact h.elim
    · rename_i t l c ho
      split at h
      · rename_i e hk
        split at h
        · rename_i m1 kl lv kc cv hs el ec hf
          obtain ⟨m, N, rfl, rfl, hmN, hb, hM, hK⟩ := h
          exact ⟨_, _, hK, runs_makeSlice hT ho hk (by omega) hf hd el ec hmN hb hM⟩
        · exact h.elim
      · exact h.elim
    · rename_i f args ats ho
      split at h
      · rename_i k caps ef
        have h := evL_elim h
        rcases h with h | h
        rotate_left
        · exact runs_callM ho hd ef h
        obtain ⟨l1, ⟨l', r, hle, hret, hK⟩, hgen⟩ := lendA_loc h
        have run := fun hs => runs_call (P := P) (w0 := w0) (E := E) (wrap := fun d => d) (A0 := A0) (ρ := ev s) ho hd (fun h => h) ef (fun h => h) hgen hle hret hs
        split at hK
        · rename_i hs
          exact ⟨_, _, hK, run (.inl hs)⟩
        · split at hK
          · rename_i hs
            exact ⟨_, _, hK, run (.inr hs)⟩
          · exact hK.elim
      · exact h.elim
    · exact h.elim

/-- what is passed over -/
def Skips (A0 : Nat → Prop) (w0 : Home) (n : Nat) (o : Oper) (te : TE) : Prop :=
  ∀ (os' : Objs) (s' : DS) (a : Act) (w : World), Rep A0 w0 n os' s' a w → Nx A0 w0 n (fun s'' => s'' = te.app s') (a.put o.dst undef) w
theorem skips_gone (hd : ∀ t, o.dst = some t → t < n) {d : DV} {rd : List Nat} : Skips A0 w0 n o ⟨dputs o.dst (.wh false d), rd, [], []⟩ := fun os' s' a w h => Nx.put h hd rep_gone putK_app
theorem ropG_ok (hT : tabOk P tt = true) (h0 : (tinfo tt 0).size = 0) (hd : ∀ t, o.dst = some t → t < n) {g : Bool} {K : TE → Nat → Prop} (h : ropG tt P o g idx s K) :
    ∃ te idx', K te idx' ∧ (g = true → Runs P A0 w0 n o te s E) ∧ (g = false → Skips A0 w0 n o te) := by
  unfold ropG at h
  split at h
  · rename_i c x y ho
    obtain ⟨c', d, hK, hgen⟩ := gen_dgPick _ h
    obtain ⟨hc, hK⟩ := needs_iff.1 hK
    refine ⟨_, _, hK, fun hg => ?_, fun hg => by subst hg; exact skips_gone hd⟩
    subst hg
    intro os' s' a w hr he hl _
    have hop : ∀ z ∈ o.op.operands.toList, RepV (avoid A0 os') os' w (a.eval z) (ev s z) := fun z hz => by rw [← he z hz]; exact hr.ev z
    rw [ho] at hop
    obtain ⟨_, _, ⟨rfl, rfl⟩, hg⟩ := dgPick_ok (P := P) (A := avoid A0 os') (os := os') (w := w) (a := a) ho (fun hR => by
      obtain ⟨c0, hR, hh⟩ := oblAll_ok2 hR
      exact ⟨c0, hR, fun hc => hh (fun z hz => hop z (by simp [Op.operands] at hz ⊢; exact .inl hz)) hc rfl _ (by simp)⟩) (hop x (by simp [Op.operands])) (hop y (by simp [Op.operands])) (hgen (fun c2 d' => c2 = c' ∧ d' = d) ⟨rfl, rfl⟩)
    obtain ⟨x, hrun, hrx⟩ := hg hc
    exact wp_value hrun (Nx.put hr hd (.wh (fun _ => hrx) (fun e => by cases e)) putK_app)
  · split at h
    · obtain ⟨c0, h, hob⟩ := oblAll_ok2 h
      obtain ⟨c, d, hK, hgen⟩ := gen_dval _ h
      obtain ⟨hc, hK⟩ := needs_iff.1 hK
      refine ⟨_, _, hK, fun hg => ?_, fun hg => by subst hg; exact skips_gone hd⟩
      subst hg
      obtain ⟨hc0, hc1⟩ := Holds.andO.1 hc
      have hcc : Holds c := by
        cases c with
        | none => exact Holds.none'
        | some p => exact Holds.some_iff.2 (Holds.some_iff.1 hc1 rfl)
      exact runs_val (wrap := .wh true) hT h0 hd hgen hcc (fun h => hob h hc0 rfl) (fun h => .wh (fun _ => h) (fun e => by cases e))
    · split at h
      · rename_i f args ats ho
        split at h
        · rename_i k caps ef
          obtain ⟨c0, h, hob⟩ := oblAll_ok2 h
          have h := evL_elim h
          obtain ⟨l1, ⟨l', r, hle, hret, hK⟩, hgen⟩ := lendA_loc h
          obtain ⟨hc0, hK⟩ := needs_iff.1 hK
          have run := fun (hg : g = true) hs => runs_call (P := P) (w0 := w0) (E := E) (wrap := .wh true) (A0 := A0) (ρ := bare s) ho hd (fun h => hob h hc0 hg) ef (fun h => .wh (fun _ => h) (fun e => by cases e)) hgen hle (hret hg) hs
          split at hK
          · rename_i hs
            exact ⟨_, _, hK, fun hg => by have := run hg (.inl hs); subst hg; exact this, fun hg => by subst hg; exact skips_gone hd⟩
          · split at hK
            · rename_i hs
              exact ⟨_, _, hK, fun hg => by have := run hg (.inr hs); subst hg; exact this, fun hg => by subst hg; exact skips_gone hd⟩
            · exact hK.elim
        · exact h.elim
      · cases g with
        | true =>
          obtain ⟨te, i, hK, hr⟩ := rop1_ok (A0 := A0) (w0 := w0) (E := E) hT h0 hd h
          exact ⟨te, i, hK, fun _ => hr, fun e => by cases e⟩
        | false =>
          have h : K ⟨dputs o.dst (.wh false (.v (.bool false))), [], [], []⟩ idx := h
          exact ⟨_, _, h, (fun e => by cases e), fun _ => skips_gone hd⟩

/-! ## guards -/
def RunsW (P : Program) (A0 : Nat → Prop) (w0 : Home) (n : Nat) (ops : Array Oper) (o : Oper) (te : TE) (s : DS) (E : Exit → Act → World → Prop) : Prop :=
  ∀ (os' : Objs) (s' : DS) (a : Act) (w : World), Rep A0 w0 n os' s' a w → (∀ t ∈ o.looksAt ops, look s'.env t = look s.env t) → (∀ k, (k ∈ te.rd ∨ te.obj k) → lget s'.loc k = lget s.loc k) → s'.loc.length = s.loc.length →
    if Region.wanted o (yielded ops a.tmps) then o.wp P a w (Nx A0 w0 n fun s'' => s'' = te.app s') E else Nx A0 w0 n (fun s'' => s'' = te.app s') (a.put o.dst undef) w
theorem looks_ev (h : ∀ t ∈ o.looksAt ops, look s'.env t = look s.env t) : ∀ x ∈ o.op.operands.toList, ev s' x = ev s x := by
  intro x hx
  cases x with
  | tmp t =>
    refine h t ?_
    simp only [Oper.looksAt, List.mem_append, List.mem_filterMap]
    exact .inl ⟨_, hx, rfl⟩
  | const v => rfl
  | global g => rfl
  | func f => rfl
theorem looks_guard {j : Nat} {want : Bool} (hg : o.guard = some (j, want)) (h : ∀ t ∈ o.looksAt ops, look s'.env t = look s.env t) : guardOf ops.toList s' j = guardOf ops.toList s j := by
  unfold guardOf
  split
  · rename_i oj hoj
    split
    · rename_i t ht
      refine h t ?_
      simp only [Oper.looksAt, hg, List.mem_append]
      refine .inr ?_
      simp only [Array.getElem?_toList] at hoj
      simp [hoj, ht]
    · rfl
  · rfl
theorem guard_yield {j : Nat} (h : Rep A0 w0 n os s a w) :
    (∀ b, guardOf ops.toList s j = .v (.bool b) → yielded ops a.tmps j = some b) ∧ (∀ g b, guardOf ops.toList s j = .wh g (.v (.bool b)) → (g = true → yielded ops a.tmps j = some b) ∧ (g = false → yielded ops a.tmps j = none)) := by
  have hy : ∀ d, guardOf ops.toList s j = d → d ≠ .junk → ∃ t, (ops[j]?).bind (·.dst) = some t ∧ look s.env t = d := by
    intro d e hj
    unfold guardOf at e
    split at e
    · rename_i oj hoj
      split at e
      · rename_i t ht
        exact ⟨t, by simp only [Array.getElem?_toList] at hoj; simp [hoj, ht], e⟩
      · exact absurd e.symm hj
    · exact absurd e.symm hj
  have some_of : ∀ (t : Nat) (b : Bool), (ops[j]?).bind (·.dst) = some t → a.tmps.getD t undef = .bool b → yielded ops a.tmps j = some b := by
    intro t b ht hv
    have hlt : t < a.tmps.size := by
      rcases Nat.lt_or_ge t a.tmps.size with hlt | hge
      · exact hlt
      · rw [Array.getD_eq_getD_getElem?, Array.getElem?_eq_none hge] at hv
        cases hv
    rw [Array.getD_eq_getD_getElem?, Array.getElem?_eq_getElem hlt] at hv
    simp only [Option.getD_some] at hv
    simp [yielded, ht, hlt, hv]
  refine ⟨fun b e => ?_, fun g b e => ⟨fun hgv => ?_, fun hgv => ?_⟩⟩
  · obtain ⟨t, ht, hlk⟩ := hy _ e (by simp)
    have hv := h.env t
    rw [hlk] at hv
    exact some_of t b ht hv.v_inv.1
  · obtain ⟨t, ht, hlk⟩ := hy _ e (by simp)
    have hv := h.env t
    rw [hlk] at hv
    exact some_of t b ht (hv.wh_inv.1 hgv).v_inv.1
  · obtain ⟨t, ht, hlk⟩ := hy _ e (by simp)
    have hv := h.env t
    rw [hlk] at hv
    have hv := hv.wh_inv.2 hgv
    have : a.tmps[t]? = none ∨ a.tmps[t]? = some undef := by
      rw [Array.getD_eq_getD_getElem?] at hv
      cases ht : a.tmps[t]? with
      | none => exact .inl rfl
      | some v => rw [ht] at hv; exact .inr (by simpa using hv)
    rcases this with h1 | h1 <;> simp [yielded, ht, h1, undef]
theorem rop_ok (hT : tabOk P tt = true) (h0 : (tinfo tt 0).size = 0) (hd : ∀ t, o.dst = some t → t < n) {K : TE → Nat → Prop} (h : rop tt P ops.toList o idx s K) : ∃ te idx', K te idx' ∧ RunsW P A0 w0 n ops o te s E := by
  unfold rop at h
  split at h
  · rename_i hg
    obtain ⟨te, i, hK, hr⟩ := rop1_ok (A0 := A0) (w0 := w0) (E := E) hT h0 hd h
    refine ⟨te, i, hK, fun os' s' a w h1 h2 h3 h4 => ?_⟩
    rw [if_pos (by simp [Region.wanted, hg])]
    exact hr os' s' a w h1 (looks_ev h2) h3 h4
  · rename_i j want hg
    split at h
    · rename_i b e
      obtain ⟨te, i, hK, hr1, hr2⟩ := ropG_ok (A0 := A0) (w0 := w0) (E := E) hT h0 hd (wantK_iff.1 h)
      refine ⟨te, i, hK, fun os' s' a w h1 h2 h3 h4 => ?_⟩
      have hyl := (guard_yield (ops := ops) (j := j) h1).1 b ((looks_guard hg h2).trans e)
      by_cases hb : b = want
      · subst hb
        rw [if_pos (by simp [Region.wanted, hg, hyl])]
        exact hr1 (by cases b <;> rfl) os' s' a w h1 (looks_ev h2) h3 h4
      · rw [if_neg (by simp [Region.wanted, hg, hyl, hb])]
        exact hr2 (by cases b <;> cases want <;> simp at hb ⊢) os' s' a w h1
    · rename_i g b e
      obtain ⟨te, i, hK, hr1, hr2⟩ := ropG_ok (A0 := A0) (w0 := w0) (E := E) hT h0 hd (wantK_iff.1 h)
      refine ⟨te, i, hK, fun os' s' a w h1 h2 h3 h4 => ?_⟩
      have hyl := (guard_yield (ops := ops) (j := j) h1).2 g b ((looks_guard hg h2).trans e)
      cases hgv : g with
      | false =>
        have hyl := hyl.2 hgv
        rw [if_neg (by simp [Region.wanted, hg, hyl])]
        exact hr2 (by simp [hgv]) os' s' a w h1
      | true =>
        have hyl := hyl.1 hgv
        by_cases hb : b = want
        · subst hb
          rw [if_pos (by simp [Region.wanted, hg, hyl])]
          exact hr1 (by rw [hgv]; cases b <;> rfl) os' s' a w h1 (looks_ev h2) h3 h4
        · rw [if_neg (by simp [Region.wanted, hg, hyl, hb])]
          exact hr2 (by rw [hgv]; cases b <;> cases want <;> simp at hb ⊢) os' s' a w h1
    · exact h.elim
end
end Go.Lift
