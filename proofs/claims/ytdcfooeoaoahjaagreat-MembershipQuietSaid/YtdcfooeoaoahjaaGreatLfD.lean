/- A data-level logic for the model: what a body does to data; its soundness (part LfD). No conditions. -/
import Derived.Test.YtdcfooeoaoahjaaGreatLfC
import Derived.Deep.LoopGhost
import Derived.Scope
import Derived.ProofKit
import Derived.OpenShut
import Derived.Carry
import Derived.Deep.Slices
import Derived.Shelf.SlSortCmp.NoneTotal
set_option linter.unusedSimpArgs false
set_option linter.unusedVariables false
namespace Go.Lift
open Go

section
variable {P : Program} {tt : TT} {A0 : Nat → Prop} {w0 : Home} {n : Nat} {os : Objs} {s s' : DS} {a : Act} {w : World} {o : Oper} {A : Nat → Prop} {B : Home} {ρ : Operand → DV} {loc loc' : List LObj} {Q : Option Prop → DV → Prop} {ops : Array Oper}
variable {E : Exit → Act → World → Prop} {idx : Nat}

theorem elems_gen {size : Nat} : ∀ {l : List (Nat × Operand)} {es : List (List DV)} {K : List (List DV) → Prop}, elemsK ρ size l es K → ∃ es', K es' ∧ ∀ K', K' es' → elemsK ρ size l es K'
  | [], es, K, h => ⟨es, h, fun _ h' => h'⟩
  | (i, x) :: r, es, K, h => by
    have h := frc_iff.1 h
    split at h
    · rename_i hb
      obtain ⟨es', h1, h2⟩ := elems_gen h
      refine ⟨es', h1, fun K' h' => ?_⟩
      unfold elemsK
      refine frc_iff.2 ?_
      simp only [hb]
      exact h2 K' h'
    · exact h.elim
theorem Imm.full {A : Nat → Prop} {w : World} {a : Addr} {n sz : Nat} {es : List (List DV)} {f : Bool} (h : Imm A w (.slice (some a) n n) (.lst sz es false)) : Imm A w (.slice (some a) n n) (.lst sz es f) := by
  cases h with
  | lst xs hn hc hm hf hsz hA hb hone hcell hx => exact .lst xs hn hc hm (fun _ => rfl) hsz hA hb hone hcell hx
theorem runs_buildSlice (hT : tabOk P tt = true) {t e : TypeId} {m : Nat} {parts : Array (Nat × Operand)} {K : List (List DV) → Prop} (ho : o.op = .buildSlice t m parts) (hk : (tinfo tt t).k = .slc e) (hs : (tinfo tt e).size ≠ 0) (hle : m * (tinfo tt e).size ≤ 16777216) 
    (hd : ∀ t, o.dst = some t → t < n) (hK : elemsK (ev s) (tinfo tt e).size parts.toList (List.replicate m (tinfo tt e).zero) K) :
    ∃ es, K es ∧ ∀ f : Bool, Runs P A0 w0 n o ⟨dputs o.dst (.lst (tinfo tt e).size es f), [], [], []⟩ s E := by
  obtain ⟨es, hes, hgen⟩ := elems_gen hK
  refine ⟨es, hes, ?_⟩
  intro f os' s' a w h he hl hlen
  obtain ⟨i, hi, hsz, hby, z, hz, hzo, hzl⟩ := tab_size hT hs
  have hu := tab_slc hT hk
  obtain ⟨h1, h2, h3⟩ := zOk_all (A := avoid A0 os') (w := w) hzo
  have hcr : CellsRep (avoid A0 os') os' w z.cells (tinfo tt e).zero := ⟨by simpa using h1, h2, fun i v d hv hd => .imm (h3 i v d (by simpa using hv) hd)⟩
  have hpos := Nat.pos_of_ne_zero hs
  have hrow := made_row (N := m) (m := m) hcr (fun i v d hv hd => h3 i v d (by simpa using hv) hd) (by omega) (Nat.le_refl _)
  rw [hzl] at hrow
  have hml : (madeCells z.cells (m * (tinfo tt e).size)).toList.length = m * (tinfo tt e).size := (Array.length_toList (xs := madeCells z.cells (m * (tinfo tt e).size))).trans (size_madeCells _ _)
  rw [List.take_of_length_le (by rw [hml]; exact Nat.le_refl _)] at hrow
  obtain ⟨cells', es', hK, hfill, hrep, hlen'⟩ := elems_loop (a := a) (os := os') hpos parts.toList _ _ hrow (ρ := ev s) (fun p hp => by
    have hm : p.2 ∈ o.op.operands.toList := by
      rw [ho]
      simp only [Op.operands, List.mem_map]
      exact ⟨p, hp, rfl⟩
    have := h.ev p.2
    rwa [he _ hm] at this) (hgen (fun es' => es' = es) rfl)
  subst hK
  rw [List.length_replicate] at hlen'
  have hcs : cells'.size = m * (tinfo tt e).size := by have := hrep.len; rw [hlen'] at this; simpa using this
  have hm : m ≤ maxLen := by
    have h2 : m * 1 ≤ m * (tinfo tt e).size := Nat.mul_le_mul_left _ hpos
    simp only [maxLen]
    omega
  have hown := World.ownsRow_lit (base := 0) (e := e) (size := (tinfo tt e).size) w cells' m (Nat.zero_le _) hm hcs
  have hg : w.grownBy (w.alloc (.cells cells' e)) none := World.grownBy_alloc w (.cells cells' e) none
  have hob : ObjOk (avoid A0 os') os' w0 (w.alloc (.cells cells' e)) (.slice (some ⟨w.heap.size, 0, none⟩) m m) (.row e (tinfo tt e).size es') :=
    row_obj (fun b hb => Home.mine_new h.gr (by simp [blk] at hb; omega)) (by rw [hlen']; exact hown) hpos (hrep.keep (Keeps.grown hg (fun _ _ h => h)))
  have him : Imm (avoid A0 os') (w.alloc (.cells cells' e)) (.slice (some ⟨w.heap.size, 0, none⟩) m m) (.lst (tinfo tt e).size es' false) := own_lst hob (fun _ h => h) (fun b hb hv => by
    simp [blk] at hb
    subst hb
    rcases hv with hv | ⟨k, x, o', hk, hdd, hbb⟩
    · have := h.a0_lt hv
      omega
    · have := ((h.obj k x o' hk).blk_ge hdd hbb).2
      omega)
  refine wp_value (x := .slice (some ⟨w.heap.size, 0, none⟩) m m) (w' := w.alloc (.cells cells' e)) ?_ (Nx.put (h.grown hg) hd (.imm him.full) putK_app)
  have hparts : (parts.map fun (i, x) => (i, a.eval x)).toList = parts.toList.map fun p => (p.1, a.eval p.2) := by cases parts; simp
  have hbig : ¬ (m * (tinfo tt e).size > 2 ^ 24) := by omega
  by_cases hz0 : m * (tinfo tt e).size = 0
  · have hfill0 : Instr.fill (fun i => some (i * (tinfo tt e).size, (tinfo tt e).size)) (madeCells #[] (m * (tinfo tt e).size)) (parts.toList.map fun p => (p.1, a.eval p.2)) = some cells' := by
      rw [← hfill]
      congr 1
      rw [hz0]
      simp [madeCells]
    simp only [execOp, ho, Instr.buildSlice, Sem.run_bind, run_underlying hu, Result.andThen_ok, run_sizeOf_tab hT hs, if_neg hbig, if_pos hz0, Sem.run_pure, hparts]
    simp only [madeCells] at hfill0
    simp only [hfill0, Sem.run_bind, newRow, run_newObj, Result.andThen_ok, Sem.run_pure, World.alloc_eq]
  · have hzr : (zeroValue e).run P w = .ok z w := by simp [zeroValue, typeInfo, hi, hz]
    simp only [madeCells] at hfill
    simp only [execOp, ho, Instr.buildSlice, Sem.run_bind, run_underlying hu, Result.andThen_ok, run_sizeOf_tab hT hs, if_neg hbig, if_neg hz0, hzr, Sem.run_pure, hparts]
    simp only [hfill, Sem.run_bind, newRow, run_newObj, Result.andThen_ok, Sem.run_pure, World.alloc_eq]

theorem runs_buildSlice0 (hT : tabOk P tt = true) {t e : TypeId} {m : Nat} {parts : Array (Nat × Operand)} {K : List (List DV) → Prop} (ho : o.op = .buildSlice t m parts) (hk : (tinfo tt t).k = .slc e) (hs : (tinfo tt e).size ≠ 0) (hle : m * (tinfo tt e).size ≤ 16777216) 
    (hf : freeAt s.loc idx = true) (hd : ∀ t, o.dst = some t → t < n) (hK : elemsK (ev s) (tinfo tt e).size parts.toList (List.replicate m (tinfo tt e).zero) K) :
    ∃ es, K es ∧ Runs P A0 w0 n o ⟨dputs o.dst (.own idx), [], [(idx, .row e (tinfo tt e).size es)], []⟩ s E := by
  obtain ⟨es, hes, hgen⟩ := elems_gen hK
  refine ⟨es, hes, ?_⟩
  intro os' s' a w h he hl hlen
  obtain ⟨hlt, hdead⟩ := freeAt_iff hf
  have hdead : lget s'.loc idx = .dead := (hl idx (.inr ⟨_, List.mem_cons_self⟩)).trans hdead
  obtain ⟨y, hiy⟩ := free_os h hdead (by omega)
  obtain ⟨i, hi, hsz, hby, z, hz, hzo, hzl⟩ := tab_size hT hs
  have hu := tab_slc hT hk
  obtain ⟨h1, h2, h3⟩ := zOk_all (A := avoid A0 os') (w := w) hzo
  have hcr : CellsRep (avoid A0 os') os' w z.cells (tinfo tt e).zero := ⟨by simpa using h1, h2, fun i v d hv hd => .imm (h3 i v d (by simpa using hv) hd)⟩
  have hpos := Nat.pos_of_ne_zero hs
  have hrow := made_row (N := m) (m := m) hcr (fun i v d hv hd => h3 i v d (by simpa using hv) hd) (by omega) (Nat.le_refl _)
  rw [hzl] at hrow
  have hml : (madeCells z.cells (m * (tinfo tt e).size)).toList.length = m * (tinfo tt e).size := (Array.length_toList (xs := madeCells z.cells (m * (tinfo tt e).size))).trans (size_madeCells _ _)
  rw [List.take_of_length_le (by rw [hml]; exact Nat.le_refl _)] at hrow
  obtain ⟨cells', es', hK, hfill, hrep, hlen'⟩ := elems_loop (a := a) (os := os') hpos parts.toList _ _ hrow (ρ := ev s) (fun p hp => by
    have hm : p.2 ∈ o.op.operands.toList := by
      rw [ho]
      simp only [Op.operands, List.mem_map]
      exact ⟨p, hp, rfl⟩
    have := h.ev p.2
    rwa [he _ hm] at this) (hgen (fun es' => es' = es) rfl)
  subst hK
  rw [List.length_replicate] at hlen'
  have hcs : cells'.size = m * (tinfo tt e).size := by have := hrep.len; rw [hlen'] at this; simpa using this
  have hm : m ≤ maxLen := by
    have h2 : m * 1 ≤ m * (tinfo tt e).size := Nat.mul_le_mul_left _ hpos
    simp only [maxLen]
    omega
  have hown := World.ownsRow_lit (base := 0) (e := e) (size := (tinfo tt e).size) w cells' m (Nat.zero_le _) hm hcs
  have hg : w.grownBy (w.alloc (.cells cells' e)) none := World.grownBy_alloc w (.cells cells' e) none
  have hp := h.revive (w' := w.alloc (.cells cells' e)) (x := .slice (some ⟨w.heap.size, 0, none⟩) m m) (ob := .row e (tinfo tt e).size es') hiy hg (fun b hb => by simp [blk] at hb; omega)
    (fun k ha => row_obj (fun b hb => Home.mine_new h.gr (by simp [blk] at hb; omega)) (by rw [hlen']; exact hown) hpos (hrep.keep k))
  refine wp_value (x := .slice (some ⟨w.heap.size, 0, none⟩) m m) (w' := w.alloc (.cells cells' e)) ?_ (Nx.put hp hd (.own (List.getElem?_set_self (List.getElem?_eq_some_iff.1 hiy).1) rfl) putK_app')
  have hparts : (parts.map fun (i, x) => (i, a.eval x)).toList = parts.toList.map fun p => (p.1, a.eval p.2) := by cases parts; simp
  have hbig : ¬ (m * (tinfo tt e).size > 2 ^ 24) := by omega
  by_cases hz0 : m * (tinfo tt e).size = 0
  · have hfill0 : Instr.fill (fun i => some (i * (tinfo tt e).size, (tinfo tt e).size)) (madeCells #[] (m * (tinfo tt e).size)) (parts.toList.map fun p => (p.1, a.eval p.2)) = some cells' := by
      rw [← hfill]
      congr 1
      rw [hz0]
      simp [madeCells]
    simp only [execOp, ho, Instr.buildSlice, Sem.run_bind, run_underlying hu, Result.andThen_ok, run_sizeOf_tab hT hs, if_neg hbig, if_pos hz0, Sem.run_pure, hparts]
    simp only [madeCells] at hfill0
    simp only [hfill0, Sem.run_bind, newRow, run_newObj, Result.andThen_ok, Sem.run_pure, World.alloc_eq]
  · have hzr : (zeroValue e).run P w = .ok z w := by simp [zeroValue, typeInfo, hi, hz]
    simp only [madeCells] at hfill
    simp only [execOp, ho, Instr.buildSlice, Sem.run_bind, run_underlying hu, Result.andThen_ok, run_sizeOf_tab hT hs, if_neg hbig, if_neg hz0, hzr, Sem.run_pure, hparts]
    simp only [hfill, Sem.run_bind, newRow, run_newObj, Result.andThen_ok, Sem.run_pure, World.alloc_eq]

theorem runs_makeSlice (hT : tabOk P tt = true) {t e : TypeId} {l c : Operand} {kl kc : IntKind} {m N : Nat} (ho : o.op = .makeSlice t l c) (hk : (tinfo tt t).k = .slc e) (hs : (tinfo tt e).size ≠ 0) (hf : freeAt s.loc idx = true)
    (hd : ∀ t, o.dst = some t → t < n) (el : ev s l = .v (.int kl m)) (ec : ev s c = .v (.int kc N)) (hmN : m ≤ N) (hb : N * (tinfo tt e).bytes ≤ 140737488355328) (hM : N ≤ maxLen) :
    Runs P A0 w0 n o ⟨dputs o.dst (.own idx), [], [(idx, .row e (tinfo tt e).size (List.replicate m (tinfo tt e).zero))], []⟩ s E := by
  intro os' s' a w h he hl' hlen0
  obtain ⟨hlt, hdead⟩ := freeAt_iff hf
  have hdead : lget s'.loc idx = .dead := (hl' idx (.inr ⟨_, List.mem_cons_self⟩)).trans hdead
  obtain ⟨y, hiy⟩ := free_os h hdead (by omega)
  have hl : a.eval l = .int kl m := by
    have := h.ev l
    rw [he l (by rw [ho]; simp [Op.operands]), el] at this
    exact this.v_inv.1
  have hc : a.eval c = .int kc N := by
    have := h.ev c
    rw [he c (by rw [ho]; simp [Op.operands]), ec] at this
    exact this.v_inv.1
  obtain ⟨i, hi, hsz, hby, z, hz, hzo, hzl⟩ := tab_size hT hs
  have hu := tab_slc hT hk
  obtain ⟨h1, h2, h3⟩ := zOk_all (A := avoid A0 os') (w := w) hzo
  have hcr : CellsRep (avoid A0 os') os' w z.cells (tinfo tt e).zero := ⟨by simpa using h1, h2, fun i v d hv hd => .imm (h3 i v d (by simpa using hv) hd)⟩
  have hM' : (N : Int) ≤ 9223372036854775807 := by simp only [maxLen] at hM; omega
  have hrun := run_make (P := P) w t e i z hu hi hz kl kc m N (by omega) (by omega) (by
    have : ((i.bytes * N : Nat) : Int) ≤ 281474976710656 := by rw [hby, Nat.mul_comm]; omega
    rwa [Int.natCast_mul] at this) hM'
  simp only [Int.toNat_natCast, hsz] at hrun
  have hpos := Nat.pos_of_ne_zero hs
  have hrow := made_row (N := N) (m := m) hcr (fun i v d hv hd => h3 i v d (by simpa using hv) hd) (by omega) hmN
  rw [hzl] at hrow
  have hlen : (List.replicate m (tinfo tt e).zero).length = m := by simp
  have hp := h.revive (w' := w.alloc (.cells (madeCells z.cells (N * (tinfo tt e).size)) e)) (x := .slice (some ⟨w.heap.size, 0, none⟩) m N) (ob := .row e (tinfo tt e).size (List.replicate m (tinfo tt e).zero)) hiy (World.grownBy_alloc w _ none) (fun b hb => by simp [blk] at hb; omega)
    (fun k ha => row_obj (fun b hb => Home.mine_new h.gr (by simp [blk] at hb; omega)) (xs := (madeCells z.cells (N * (tinfo tt e).size)).toList.take (m * (tinfo tt e).size)) ⟨by rw [hrow.len], .inr ⟨w.heap.size, N, _, by rw [hlen], Nat.zero_le _, heap_alloc_new w _, by rw [hlen]; exact hmN, hM, size_madeCells _ _, by rw [hlen]⟩⟩ hpos (hrow.keep k))
  refine wp_value (x := .slice (some ⟨w.heap.size, 0, none⟩) m N) (w' := w.alloc (.cells (madeCells z.cells (N * (tinfo tt e).size)) e)) ?_ (Nx.put hp hd (.own (List.getElem?_set_self (List.getElem?_eq_some_iff.1 hiy).1) rfl) putK_app')
  simp only [execOp, ho, hl, hc, Sem.run_bind, hrun, Result.andThen_ok, Sem.run_pure]

theorem plain_own0 {d : DV} (h : isPlain0 d = true) : own0 d = [] := by
  cases d
  case fn f caps =>
    simp only [isPlain0, List.all_eq_true] at h
    simp only [own0, List.filter_eq_nil_iff]
    intro d hd
    have := h d hd
    cases d <;> simp [plainCap, isLp] at this ⊢
  all_goals first | rfl | (simp [isPlain0] at h)
theorem plain_owns {d : DV} (h : plainAll (dcells d) = true) : owns [d] = [] := by
  have hm := plainAll_mem h
  by_cases hd : ∃ cs, d = .agg cs
  · obtain ⟨cs, rfl⟩ := hd
    simp only [owns, List.append_nil, List.flatMap_eq_nil_iff]
    exact fun e he => plain_own0 (hm e he)
  · have h1 : dcells d = [d] := by cases d <;> first | rfl | exact absurd ⟨_, rfl⟩ hd
    have h2 : owns [d] = own0 d := by cases d <;> first | exact absurd ⟨_, rfl⟩ hd | simp [owns]
    rw [h2]
    exact plain_own0 (hm d (by rw [h1]; simp))
theorem runs_store (hT : tabOk P tt = true) {t : TypeId} {x y : Operand} {d : DV} {K : TE → Prop} (ho : o.op = .store t x y) (hd : ∀ t, o.dst = some t → t < n) (ed : ev s y = d) (h1 : ∀ b d', d ≠ .wh b d') (h2 : ∀ l, d ≠ .tup l) (h3 : d ≠ .junk) (hK : rStore tt s o.dst t x d K) : ∃ te, K te ∧ Runs P A0 w0 n o te s E := by
  have mk : ∀ (te : TE), (∀ s' : DS, ev s' x = ev s x → ev s' y = d → (∀ k, (k ∈ te.rd ∨ te.obj k) → lget s'.loc k = lget s.loc k) → dStore tt s' o.dst t x y d (fun s'' => s'' = te.app s')) → Runs P A0 w0 n o te s E := by
    intro te hte os' s' a w hr he hl hlen
    have e1 := he x (by rw [ho]; simp [Op.operands])
    have e2 := (he y (by rw [ho]; simp [Op.operands])).trans ed
    exact dStore_ok hT ho hr hd e2 h1 h2 h3 (hte s' e1 e2 hl)
  unfold rStore at hK
  split at hK
  · exact hK.elim
  · rename_i hs
    obtain ⟨mz, hmz⟩ := Nat.exists_eq_succ_of_ne_zero hs
    rw [hmz] at hK
    split at hK
    · rename_i i off ex
      split at hK
      · rename_i t' cs hl
        split at hK
        · exact hK.elim
        · rename_i hb
          refine ⟨_, forceC_iff.1 hK, mk _ (fun s' e1 e2 hl' => ?_)⟩
          have hl2 := (hl' i (.inl (by simp))).trans hl
          unfold dStore
          simp only [e1, ex, hl2, hb, hmz]
          exact forceC_iff.2 putK_app'
      · exact hK.elim
    · rename_i i off ex
      split at hK
      · rename_i t' cs hl
        split at hK
        · rename_i hb
          refine ⟨_, hK.2, mk _ (fun s' e1 e2 hl' => ?_)⟩
          have hl2 := (hl' i (.inl (by simp))).trans hl
          unfold dStore
          simp only [e1, ex, hl2, hb, hmz]
          exact ⟨hK.1, putK_app'⟩
        · exact hK.elim
      · exact hK.elim
    · rename_i i k off ex
      split at hK
      · rename_i e sz es hp hl
        obtain ⟨ed', hed, hK⟩ := hK
        split at hK
        · rename_i hb
          refine ⟨_, hK, mk _ (fun s' e1 e2 hl' => ?_)⟩
          have hl2 := (hl' i (.inl (by simp))).trans hl
          unfold dStore
          simp only [e1, ex, hmz]
          rw [plain_owns hp]
          show frc (ev s' y) (fun d_1 => dStoreRow tt s' o.dst t (ev s' x) d_1 _)
          refine frc_iff.2 ?_
          rw [e2, e1, ex]
          unfold dStoreRow
          simp only [hp, hl2]
          refine ⟨ed', hed, ?_⟩
          simp only [hmz, hb]
          exact putK_app'
        · exact hK.elim
      · exact hK.elim
    · exact hK.elim

theorem news_loc {e : TypeId} {d : DV} {K : List (List DV) → Bool → Prop} (h : dNews tt e loc d K) : ∃ ys sm, K ys sm ∧ ∀ loc', (∀ k ∈ refs d, lget loc' k = lget loc k) → ∀ K' : List (List DV) → Bool → Prop, K' ys sm → dNews tt e loc' d K' := by
  cases d
  case nl => exact ⟨_, _, h, fun _ _ _ h' => h'⟩
  case lst sz es f =>
    unfold dNews at h
    simp only at h
    split at h
    · rename_i hb
      refine ⟨_, _, h, fun loc' _ K' h' => ?_⟩
      unfold dNews
      simp only [hb]
      exact h'
    · exact h.elim
  case own j =>
    unfold dNews at h
    simp only at h
    split at h
    · rename_i e2 sz es hl
      split at h
      · rename_i hb
        refine ⟨_, _, h, fun loc' hll K' h' => ?_⟩
        have := (hll j (by simp [refs, refs0])).trans hl
        unfold dNews
        simp only [this, hb]
        exact h'
      · exact h.elim
    · exact h.elim
  all_goals exact h.elim
theorem runs_box {t : TypeId} {x : Operand} {d : DV} {rd : List Nat} (ho : o.op = .box t x) (hd : ∀ t, o.dst = some t → t < n) (hf : freeAt s.loc idx = true) (e : ev s x = d) (h1 : ∀ b d', d ≠ .wh b d') (h2 : ∀ l, d ≠ .tup l) (h3 : d ≠ .junk) :
    Runs P A0 w0 n o ⟨dputs o.dst (.lp idx 0), rd, [(idx, .cells t (dcells d))], []⟩ s E := by
  intro os' s' a w hr he hl hlen
  obtain ⟨hlt, hdead⟩ := freeAt_iff hf
  have hdead : lget s'.loc idx = .dead := (hl idx (.inr ⟨_, List.mem_cons_self⟩)).trans hdead
  obtain ⟨y, hi⟩ := free_os hr hdead (by omega)
  have hx := hr.ev x
  rw [he x (by rw [ho]; simp [Op.operands]), e] at hx
  obtain ⟨hxl, hone, hp⟩ := hx.cells h1 h2 h3
  have hp := hr.revive (x := .pointer (some ⟨w.heap.size, 0, none⟩)) (ob := .cells t (dcells d)) (w' := w.alloc (.cells (a.eval x).cells t)) hi (World.grownBy_alloc w _ none) (fun b hb => by simp [blk] at hb; omega)
    (fun k ha => ⟨w.heap.size, (a.eval x).cells, rfl, Home.mine_new hr.gr (Nat.le_refl _), heap_alloc_new w _, by simpa using hxl, hone, fun i v d hv hd => (hp i v d (by simpa using hv) hd).keepL k ha⟩)
  refine wp_value (x := .pointer (some ⟨w.heap.size, 0, none⟩)) (w' := w.alloc (.cells (a.eval x).cells t)) ?_ (Nx.put hp hd (.lp (List.getElem?_set_self (List.getElem?_eq_some_iff.1 hi).1)) putK_app')
  simp only [execOp, ho, Instr.box, Sem.run_bind, Result.andThen_ok, newVar, newRow, run_newObj, Sem.run_pure, World.alloc_eq]
theorem runs_append (hT : tabOk P tt = true) {t t' e : TypeId} {x y : Operand} {args : Array Operand} {ats : Array TypeId} {K : TE → Nat → Prop} (ho : o.op = .call { callee := .builtin .append, args := args, argTypes := ats }) (ha : args.toList = [x, y]) (hat : ats.toList = [t, t']) (htt : t = t')
    (hk : (tinfo tt t).k = .slc e) (hs : (tinfo tt e).size ≠ 0) (hd : ∀ t, o.dst = some t → t < n) (hK : rAppend tt e s idx o.dst (ev s x) (ev s y) K) : ∃ te i, K te i ∧ Runs P A0 w0 n o te s E := by
  unfold rAppend at hK
  obtain ⟨ys, sm, hK, hnews⟩ := news_loc hK
  have hpos := Nat.pos_of_ne_zero hs
  have hxm : x ∈ o.op.operands.toList := by rw [ho]; simp [Op.operands, Call.operands]; rw [← Array.mem_toList_iff, ha]; simp
  have hym : y ∈ o.op.operands.toList := by rw [ho]; simp [Op.operands, Call.operands]; rw [← Array.mem_toList_iff, ha]; simp
  have ynews : ∀ {os' : Objs} {s' : DS} {a : Act} {w : World}, Rep A0 w0 n os' s' a w → ev s' y = ev s y → (∀ k ∈ refs (ev s y), lget s'.loc k = lget s.loc k) → NewsOf (avoid A0 os') w (tinfo tt e).size (a.eval y) ys := by
    intro os' s' a w hr he hl
    have h1 := hnews s'.loc hl (fun ys' sm' => ys' = ys ∧ sm' = sm) ⟨rfl, rfl⟩
    rw [hr.loc] at h1
    have hy := hr.ev y
    rw [he] at hy
    obtain ⟨_, _, ⟨rfl, rfl⟩, h2⟩ := news_elim hs hr.obj hy h1
    exact h2
  have exec := fun {a : Act} {w : World} {r : Value} {w' : World} => append_exec (P := P) (w := w) (a := a) (r := r) (w' := w') ho ha hat htt
  split at hK
  · -- nothing
    rename_i ex
    split at hK
    · rename_i hf
      obtain ⟨hfit, hK⟩ := hK
      refine ⟨_, _, hK, fun os' s' a w hr he hl hlen => ?_⟩
      obtain ⟨hlt, hdead⟩ := freeAt_iff hf
      have hdead : lget s'.loc idx = .dead := (hl idx (.inr ⟨_, List.mem_cons_self⟩)).trans hdead
      obtain ⟨z, hi⟩ := free_os hr hdead (by omega)
      have hx := hr.ev x
      rw [he x hxm, ex] at hx
      obtain ⟨v', w', xs, hrun, hown, hg, hb, hrow⟩ := app_nl (P := P) (ty := o.type) hT hk hs hfit (ynews hr (he y hym) (fun k hk => hl k (.inl hk)))
      have hp := hr.revive (x := v') (ob := .row e (tinfo tt e).size ys) hi hg hb (fun k ha => row_obj (fun b hbb => Home.mine_new hr.gr (hb b hbb)) hown hpos (hrow.keep k))
      exact wp_value (exec (by rw [hx.nl_inv]; exact hrun)) (Nx.put hp hd (.own (List.getElem?_set_self (List.getElem?_eq_some_iff.1 hi).1) (own_one hown)) putK_app')
    · exact hK.elim
  · -- a row of the call's own
    rename_i i ex
    split at hK
    · rename_i e3 sz3 es3 hl3
      split at hK
      · rename_i hb3
        simp only [Bool.and_eq_true] at hb3
        have hb1 := Nat.eq_of_beq_eq_true hb3.1.1
        have hb2 := Nat.eq_of_beq_eq_true hb3.1.2
        subst hb1; subst hb2
        have hf := hb3.2
        obtain ⟨hfit, hK⟩ := hK
        refine ⟨_, _, hK, fun os' s' a w hr he hl hlen => ?_⟩
        obtain ⟨hlt, hdead⟩ := freeAt_iff hf
        have hdead : lget s'.loc idx = .dead := (hl idx (.inr ⟨_, List.mem_cons_of_mem _ List.mem_cons_self⟩)).trans hdead
        obtain ⟨z, hq⟩ := free_os hr hdead (by omega)
        have hrow3 := (hl i (.inl (by simp))).trans hl3
        rw [hr.loc] at hrow3
        obtain ⟨xv, hi⟩ := lget_os hrow3 (by simp)
        have hx := hr.ev x
        rw [he x hxm, ex] at hx
        have hxe := hx.own_row hi
        obtain ⟨xs, hown, _, hrr⟩ := obj_row (hr.obj _ _ _ hi)
        obtain ⟨v', w', xs', hrun, hown', hg, hb, hrow⟩ := app_own (P := P) (ty := o.type) hT hk hs hown hrr hfit (ynews hr (he y hym) (fun k hk => hl k (.inl (by simp [hk]))))
        obtain ⟨hp, hself⟩ := hr.regrow hi hq hg hb hown' hpos hrow
        exact wp_value (exec (by rw [hxe]; exact hrun)) (Nx.put hp hd (.own hself (own_one hown')) putK_app2)
      · exact hK.elim
    · exact hK.elim
  · -- a list without spare room
    rename_i sz es ex
    split at hK
    · rename_i hb
      have hb := Nat.eq_of_beq_eq_true hb
      subst hb
      obtain ⟨hfit, hK⟩ := hK
      split at hK
      · split at hK
        · rename_i hf
          obtain ⟨hys, hK⟩ := hK
          refine ⟨_, _, hK, fun os' s' a w hr he hl hlen => ?_⟩
          obtain ⟨hlt, hdead⟩ := freeAt_iff hf
          have hdead : lget s'.loc idx = .dead := (hl idx (.inr ⟨_, List.mem_cons_self⟩)).trans hdead
          obtain ⟨z, hi⟩ := free_os hr hdead (by omega)
          have hx := hr.ev x
          rw [he x hxm, ex] at hx
          obtain ⟨v', w', xs, hrun, hown, hg, hb, hrow⟩ := app_full (P := P) (ty := o.type) hT hk hs hx.lst_inv hfit (ynews hr (he y hym) (fun k hk => hl k (.inl hk))) hys
          have hp := hr.revive (x := v') (ob := .row e (tinfo tt e).size (es ++ ys)) hi hg hb (fun k ha => row_obj (fun b hbb => Home.mine_new hr.gr (hb b hbb)) hown hpos (hrow.keep k))
          exact wp_value (exec hrun) (Nx.put hp hd (.own (List.getElem?_set_self (List.getElem?_eq_some_iff.1 hi).1) (own_one hown)) putK_app')
        · exact hK.elim
      · rcases hK with ⟨hys, hK⟩ | hK
        · split at hK
          · rename_i hf
            refine ⟨_, _, hK, fun os' s' a w hr he hl hlen => ?_⟩
            obtain ⟨hlt, hdead⟩ := freeAt_iff hf
            have hdead : lget s'.loc idx = .dead := (hl idx (.inr ⟨_, List.mem_cons_self⟩)).trans hdead
            obtain ⟨z, hi⟩ := free_os hr hdead (by omega)
            have hx := hr.ev x
            rw [he x hxm, ex] at hx
            obtain ⟨v', w', xs, hrun, hown, hg, hb, hrow⟩ := app_full (P := P) (ty := o.type) hT hk hs hx.lst_inv hfit (ynews hr (he y hym) (fun k hk => hl k (.inl hk))) hys
            have hp := hr.revive (x := v') (ob := .row e (tinfo tt e).size (es ++ ys)) hi hg hb (fun k ha => row_obj (fun b hbb => Home.mine_new hr.gr (hb b hbb)) hown hpos (hrow.keep k))
            exact wp_value (exec hrun) (Nx.put hp hd (.own (List.getElem?_set_self (List.getElem?_eq_some_iff.1 hi).1) (own_one hown)) putK_app')
          · exact hK.elim
        · refine ⟨_, _, hK, fun os' s' a w hr he hl hlen => ?_⟩
          have hx := he x hxm
          rw [ex] at hx
          refine append_ok hT ho ha hat htt hk hs hr hd ?_
          rw [hx, he y hym]
          unfold dAppend
          refine hnews s'.loc (fun k hk => hl k (.inl hk)) _ ?_
          simp only [Nat.beq_refl]
          exact ⟨hfit, putK_app⟩
    · exact hK.elim
  · exact hK.elim
theorem runs_copy (hT : tabOk P tt = true) {t t' e : TypeId} {x y : Operand} {args : Array Operand} {ats : Array TypeId} {K : TE → Prop} (ho : o.op = .call { callee := .builtin .copy, args := args, argTypes := ats }) (ha : args.toList = [x, y]) (hat : ats.toList = [t, t']) (htt : t = t')
    (hk : (tinfo tt t).k = .slc e) (hs : (tinfo tt e).size ≠ 0) (hd : ∀ t, o.dst = some t → t < n) (hK : rCopy tt e s o.dst (ev s x) (ev s y) K) : ∃ te, K te ∧ Runs P A0 w0 n o te s E := by
  unfold rCopy at hK
  obtain ⟨ys, sm, hK, hnews⟩ := news_loc hK
  have hxm : x ∈ o.op.operands.toList := by rw [ho]; simp [Op.operands, Call.operands]; rw [← Array.mem_toList_iff, ha]; simp
  have hym : y ∈ o.op.operands.toList := by rw [ho]; simp [Op.operands, Call.operands]; rw [← Array.mem_toList_iff, ha]; simp
  split at hK
  · rename_i ex
    refine ⟨_, hK, fun os' s' a w hr he hl hlen => ?_⟩
    refine copy_ok hT ho ha hat htt hk hs hr hd ?_
    rw [he x hxm, he y hym, ex]
    unfold dCopy
    exact hnews s'.loc (fun k hk => hl k (.inl hk)) _ putK_app
  · rename_i i ex
    split at hK
    · rename_i e3 sz3 es3 hl3
      split at hK
      · rename_i hb
        refine ⟨_, hK, fun os' s' a w hr he hl hlen => ?_⟩
        refine copy_ok hT ho ha hat htt hk hs hr hd ?_
        rw [he x hxm, he y hym, ex]
        unfold dCopy
        refine hnews s'.loc (fun k hk => hl k (.inl (by simp [hk]))) _ ?_
        have := (hl i (.inl (by simp))).trans hl3
        simp only [this, hb]
        simp only [Bool.and_eq_true] at hb
        have hb1 := Nat.eq_of_beq_eq_true hb.1
        subst hb1
        exact putK_app'
      · exact hK.elim
    · exact hK.elim
  · exact hK.elim
theorem lsets_zip : ∀ (tgt : List Nat) (Ls l : List LObj), lsets l (tgt.zip Ls) = setAll l tgt Ls
  | [], Ls, l => by cases Ls <;> rfl
  | i :: r, [], l => rfl
  | i :: r, o :: Ls, l => by
    rw [List.zip_cons_cons, lsets, setAll]
    exact lsets_zip r Ls _
theorem objsM_loc {ρ : Nat → Nat} : ∀ {p : List Nat} {q : List LObj}, (∀ i ∈ p, lget loc' i = lget loc i) → objsM loc ρ p q → objsM loc' ρ p q
  | [], [], _, h => h
  | [], _ :: _, _, h => h.elim
  | _ :: _, [], _, h => h.elim
  | i :: p, o :: q, hl, h => ⟨by rw [hl i (by simp)]; exact h.1, objsM_loc (fun i hi => hl i (by simp [hi])) h.2⟩
theorem goneOk_get : ∀ {ks : List Bool} {L L' : List LObj} {k : Nat}, goneOk ks L L' = true → k < ks.length → ks[k]? ≠ some true → (∃ e sz es, L[k]? = some (.row e sz es)) ∧ L'[k]? = some .gone
  | [], L, L', k, _, h, _ => by simp at h
  | true :: ks, o :: L, o' :: L', 0, _, _, h => by simp at h
  | true :: ks, o :: L, o' :: L', k + 1, h, hk, hn => goneOk_get (ks := ks) (L := L) (L' := L') (k := k) (by simpa [goneOk] using h) (by simpa using hk) (by simpa using hn)
  | true :: ks, [], L', k, h, _, _ => by simp [goneOk] at h
  | true :: ks, o :: L, [], k, h, _, _ => by simp [goneOk] at h
  | false :: ks, L, L', k, h, hk, hn => by
    unfold goneOk at h
    split at h
    · rename_i e
      cases e
    · rename_i e
      cases e
      cases k with
      | zero => exact ⟨⟨_, _, _, rfl⟩, rfl⟩
      | succ k => exact goneOk_get (k := k) h (by simpa using hk) (by simpa using hn)
    · rename_i e
      cases e
    · cases h
theorem runs_callM {f : Operand} {k : FuncId} {caps : List DV} {args : Array Operand} {ats : Array TypeId} {K : TE → Nat → Prop} (ho : o.op = .call { callee := .value f, args := args, argTypes := ats }) (hd : ∀ t, o.dst = some t → t < n) (ef : ev s f = .fn (.func k) caps)
    (h : ropM P k (args.toList.map (ev s) ++ caps) s idx o.dst (opRefs (ev s) o.op.operands.toList) K) : ∃ te i, K te i ∧ Runs P A0 w0 n o te s E := by
  obtain ⟨pass, L, args0, kept, L', d, hret, hck, hobj, hdle, hK⟩ := h
  simp only [Bool.and_eq_true] at hck
  obtain ⟨⟨⟨⟨⟨⟨⟨hkept, hgh⟩, hnd⟩, hlt⟩, hba⟩, hbL⟩, hall⟩, hfree⟩ := hck
  refine ⟨_, _, hK, fun os' s' a w hr he hl hlen => ?_⟩
  simp only [List.all_eq_true] at hlt hfree
  obtain ⟨hks, hLL, _⟩ := keptOk_get (k := 0) hkept
  obtain ⟨hpl, _⟩ := objsM_get hobj
  obtain ⟨hdl, hdp⟩ := lenAll hdle
  generalize hnews : from' idx (L'.length - L.length) = news at *
  have hnl : news.length = L'.length - L.length := by rw [← hnews, from_len]
  have inwr : ∀ i ∈ pass ++ news, ∃ ob, (i, ob) ∈ (pass ++ news).zip (L'.map (mvO (nth (pass ++ news)))) := by
    intro i hi
    obtain ⟨q, hq, rfl⟩ := List.getElem_of_mem hi
    have hq2 : q < (L'.map (mvO (nth (pass ++ news)))).length := by
      simp only [List.length_append, List.length_map] at hq ⊢
      omega
    exact ⟨_, List.mem_of_getElem? (i := q) (List.getElem?_zip_eq_some.2 ⟨List.getElem?_eq_getElem hq, List.getElem?_eq_getElem hq2⟩)⟩
  have hloc : ∀ i ∈ pass ++ news, lget s'.loc i = lget s.loc i := fun i hi => hl i (.inr (inwr i hi))
  have hlt : ∀ i ∈ pass, i < s.loc.length := fun i hi => Nat.le_of_ble_eq_true (hlt i hi)
  have hlen' := hr.len
  have hfr : ∀ i ∈ news, ∃ y, os'[i]? = some (y, .dead) := by
    intro i hi
    obtain ⟨h1, h2⟩ := freeAt_iff (hfree i hi)
    exact free_os hr ((hloc i (List.mem_append.2 (.inr hi))).trans h2) (by omega)
  have hobj' := objsM_loc (loc' := s'.loc) (fun i hi => hloc i (List.mem_append.2 (.inl hi))) hobj
  have hops : ∀ x ∈ o.op.operands.toList, RepV (avoid A0 os') os' w (a.eval x) (ev s x) := fun x hx => by rw [← he x hx]; exact hr.ev x
  have hf := hops f (by rw [ho]; simp [Op.operands, Call.operands])
  rw [ef] at hf
  obtain ⟨vs, hv, hvl, hp⟩ := hf.fn_inv
  obtain ⟨h1, h2⟩ := args_rep (os := os') (A := avoid A0 os') (w := w) (a := a) (l := args.toList) (ρ := ev s) rfl (fun x hx => hops x (by rw [ho]; simp only [Op.operands, Call.operands, Array.toList_append, List.mem_append]; exact .inr hx)) hvl hp
  have core := callM_core (pass := pass) (news := news) (J := []) hr hret (fun k i hk hn => .inr (goneOk_get hall (by rw [hks, ← hpl]; exact (List.getElem?_eq_some_iff.1 hk).1) hn)) hkept hgh (nodupB_iff hnd) (fun i hi => by have := hlt i hi; omega) hfr (by omega) hbL hba hobj' (vals := args.toList.map a.eval ++ vs) (by rw [h1, hdl]; simp) (fun i v d hv hd => by
    have hil := (List.getElem?_eq_some_iff.1 hv).1
    have hli := List.getElem?_eq_getElem (l := args.toList.map (ev s) ++ caps) (i := i) (by omega)
    have hd2 : (args0.map (mvT (nth (pass ++ news))))[i]? = some (mvT (nth (pass ++ news)) d) := by rw [List.getElem?_map, hd]; rfl
    exact ((h2 i v _ hv hli).less (hdp i _ _ hli hd2)).keep (Keeps.less (fun b hb => avoidX_sub hb)) (.refl _))
  unfold Oper.wp
  rw [call_exec ho hv hret.1]
  refine core.mono fun e w' hx => ?_
  obtain ⟨v, os2, rfl, hr2, hv2⟩ := hx
  refine Nx.put hr2 hd hv2 ?_
  have e1 : afterC s' (pass ++ news) [] L' = ⟨s'.env, setAll s'.loc (pass ++ news) (L'.map (mvO (nth (pass ++ news))))⟩ := rfl
  rw [e1, ← lsets_zip]
  refine putK_iff.2 ?_
  cases o.dst <;> rfl
theorem objsE_M {ρ : Nat → Nat} : ∀ {p : List Nat} {q : List LObj}, objsE loc ρ p q → objsM loc ρ p q
  | [], [], _ => trivial
  | [], _ :: _, h => h.elim
  | _ :: _, [], h => h.elim
  | i :: p, o :: q, h => ⟨by rw [h.1]; exact .refl, objsE_M h.2⟩
theorem objsE_loc {ρ : Nat → Nat} : ∀ {p : List Nat} {q : List LObj}, (∀ i ∈ p, lget loc' i = lget loc i) → objsE loc ρ p q → objsE loc' ρ p q
  | [], [], _, h => h
  | [], _ :: _, _, h => h.elim
  | _ :: _, [], _, h => h.elim
  | i :: p, o :: q, hl, h => ⟨by rw [hl i (by simp)]; exact h.1, objsE_loc (fun i hi => hl i (by simp [hi])) h.2⟩
theorem objsE_set {ρ : Nat → Nat} : ∀ {p : List Nat} {q : List LObj} {l : List LObj}, (∀ i ∈ p, i < l.length) → objsE l ρ p q → setAll l p (q.map (mvO ρ)) = l
  | [], [], _, _, _ => rfl
  | [], _ :: _, _, _, h => h.elim
  | _ :: _, [], _, _, h => h.elim
  | i :: p, o :: q, l, hl, h => by
    rw [List.map_cons, setAll]
    have : lset l i (mvO ρ o) = l := by
      rw [← h.1, lset_eq, lget_eq]
      have := hl i (by simp)
      rw [List.getElem?_eq_getElem this]
      simp
    rw [this]
    exact objsE_set (fun i hi => hl i (by simp [hi])) h.2
theorem runs_callR {K : TE → Nat → Prop} (hd : ∀ t, o.dst = some t → t < n) (h : ropR P o idx s K) : ∃ te i, K te i ∧ Runs P A0 w0 n o te s E := by
  unfold ropR at h
  split at h
  case h_2 => exact h.elim
  rename_i f args ats ho
  split at h
  case h_2 => exact h.elim
  rename_i k caps ef
  have h := evL_elim h
  obtain ⟨pass, L, args0, kept, d, hret, hck, hobj, hdle, hK⟩ := h
  simp only [Bool.and_eq_true] at hck
  obtain ⟨⟨⟨⟨⟨⟨hkept, hgh⟩, hnd⟩, hlt⟩, hba⟩, hbL⟩, hall⟩ := hck
  refine ⟨_, _, hK, fun os' s' a w hr he hl hlen => ?_⟩
  simp only [List.all_eq_true] at hlt hall
  obtain ⟨hks, hLL, _⟩ := keptOk_get (k := 0) hkept
  obtain ⟨hpl, _⟩ := objsM_get (objsE_M hobj)
  obtain ⟨hdl, hdp⟩ := lenAll hdle
  have hloc : ∀ i ∈ pass, lget s'.loc i = lget s.loc i := fun i hi => hl i (.inl (List.mem_append.2 (.inr hi)))
  have hlt : ∀ i ∈ pass, i < s.loc.length := fun i hi => Nat.le_of_ble_eq_true (hlt i hi)
  have hlen' := hr.len
  have hobj' := objsE_loc (loc' := s'.loc) hloc hobj
  have hops : ∀ x ∈ o.op.operands.toList, RepV (avoid A0 os') os' w (a.eval x) (ev s x) := fun x hx => by rw [← he x hx]; exact hr.ev x
  have hf := hops f (by rw [ho]; simp [Op.operands, Call.operands])
  rw [ef] at hf
  obtain ⟨vs, hv, hvl, hp⟩ := hf.fn_inv
  obtain ⟨h1, h2⟩ := args_rep (os := os') (A := avoid A0 os') (w := w) (a := a) (l := args.toList) (ρ := ev s) rfl (fun x hx => hops x (by rw [ho]; simp only [Op.operands, Call.operands, Array.toList_append, List.mem_append]; exact .inr hx)) hvl hp
  have core := callM_core (pass := pass) (news := []) (J := []) hr hret (fun k i hk hn => by
      exfalso
      have hkl := (List.getElem?_eq_some_iff.1 hk).1
      have hkk := List.getElem?_eq_getElem (l := kept) (i := k) (by omega)
      have := hall _ (List.mem_of_getElem? hkk)
      rw [hkk] at hn
      exact hn (by rw [this])) hkept hgh (by rw [List.append_nil]; exact nodupB_iff hnd) (fun i hi => by have := hlt i hi; omega) (by simp) (by simp; omega) hbL hba (by rw [List.append_nil]; exact objsE_M hobj') (vals := args.toList.map a.eval ++ vs) (by rw [h1, hdl]; simp) (fun i v d hv hd => by
    have hil := (List.getElem?_eq_some_iff.1 hv).1
    have hli := List.getElem?_eq_getElem (l := args.toList.map (ev s) ++ caps) (i := i) (by omega)
    have hd2 : (args0.map (mvT (nth pass)))[i]? = some (mvT (nth pass) d) := by rw [List.getElem?_map, hd]; rfl
    rw [List.append_nil]
    exact ((h2 i v _ hv hli).less (hdp i _ _ hli hd2)).keep (Keeps.less (fun b hb => avoidX_sub hb)) (.refl _))
  rw [List.append_nil] at core
  unfold Oper.wp
  rw [call_exec ho hv hret.1]
  refine core.mono fun e w' hx => ?_
  obtain ⟨v, os2, rfl, hr2, hv2⟩ := hx
  refine Nx.put hr2 hd hv2 ?_
  have e1 : afterC s' pass [] L = s' := by
    show (⟨s'.env, setAll s'.loc pass (L.map (mvO (nth pass)))⟩ : DS) = s'
    rw [objsE_set (fun i hi => by have := hlt i hi; omega) hobj']
  rw [e1]
  refine putK_iff.2 ?_
  cases o.dst <;> rfl
theorem Rep.goneRow {i e sz : Nat} {es : List (List DV)} {x : Value} (h : Rep A0 w0 n os s a w) (hi : os[i]? = some (x, .row e sz es)) : Rep A0 w0 n (os.set i (.nilFunc, .gone)) ⟨s.env, lset s.loc i .gone⟩ a w := by
  have hlti := (List.getElem?_eq_some_iff.1 hi).1
  have hgone : (os.set i (.nilFunc, .gone))[i]? = some (.nilFunc, .gone) := List.getElem?_set_self hlti
  generalize hos : os.set i (.nilFunc, .gone) = os' at hgone ⊢
  have hget : ∀ {j : Nat} {z : Value} {o' : LObj}, os'[j]? = some (z, o') → (j = i ∧ z = .nilFunc ∧ o' = .gone) ∨ (j ≠ i ∧ os[j]? = some (z, o')) := by
    intro j z o' hj
    by_cases e2 : j = i
    · subst e2; rw [hgone] at hj; cases hj; exact .inl ⟨rfl, rfl, rfl⟩
    · rw [← hos, List.getElem?_set_ne (fun e' => e2 e'.symm)] at hj
      exact .inr ⟨e2, hj⟩
  have ha : AlikeG i os os' := by
    refine ⟨⟨_, _, _, _, hi⟩, ⟨_, hgone⟩, fun j z o hj hd ho => ⟨o, ?_, by cases o <;> simp [kindIs]⟩⟩
    rw [← hos, List.getElem?_set_ne (fun e' => hj e'.symm)]
    exact ho
  have hav : ∀ b, b < w.heap.size → avoid A0 os' b → avoid A0 os b := by
    intro b hbl hv
    rcases hv with hv | ⟨j, z, o', hj, hdd, hbb⟩
    · exact .inl hv
    · rcases hget hj with ⟨rfl, rfl, rfl⟩ | ⟨_, hj⟩
      · simp [blk] at hbb
      · exact .inr ⟨_, _, _, hj, hdd, hbb⟩
  have k : Keeps (avoid A0 os) (avoid A0 os') w w := ⟨Nat.le_refl _, hav, fun b hbl hn => rfl⟩
  refine ⟨h.size, h.defers, h.gr, h.a0, by rw [← hos, lset_eq, h.loc, List.map_set], fun t => (h.env t).keepG k ha, fun j z o' hj => ?_, fun j1 j2 z o1 z2 o2 b h1 h2 d1 d2 b1 b2 => ?_⟩
  · rcases hget hj with ⟨rfl, rfl, rfl⟩ | ⟨hne1, hj⟩
    · exact rfl
    · exact (h.obj j z o' hj).keepG k ha (fun b hdd hbb => rfl)
  · rcases hget h1 with ⟨rfl, rfl, rfl⟩ | ⟨_, g1⟩
    · simp [blk] at b1
    · rcases hget h2 with ⟨rfl, rfl, rfl⟩ | ⟨_, g2⟩
      · simp [blk] at b2
      · exact h.inj _ _ _ _ _ _ b g1 g2 d1 d2 b1 b2
theorem runs_callG {f : Operand} {k : FuncId} {caps : List DV} {args : Array Operand} {ats : Array TypeId} {l1 l' : List DV} {r : DV} {j : Nat} (ho : o.op = .call { callee := .value f, args := args, argTypes := ats }) (hd : ∀ t, o.dst = some t → t < n)
    (ef : ev s f = .fn (.func k) caps)
    (hgen : ∀ loc', (∀ d ∈ args.toList.map (ev s) ++ caps, ∀ k ∈ refs d, lget loc' k = lget s.loc k) → ∀ R' : List DV → Prop, R' l1 → lendA loc' (args.toList.map (ev s) ++ caps) R')
    (hle : DleAll l1 l') (hret : Ret P k l' r) (hs : owns (args.toList.map (ev s) ++ caps) = [.own j]) (hrow : isRow (lget s.loc j) = true) :
    Runs P A0 w0 n o ⟨dputs o.dst r, opRefs (ev s) o.op.operands.toList ++ caps.flatMap refs, [(j, .gone)], []⟩ s E := by
  intro os' s' a w hr he hl _
  have hops : ∀ x ∈ o.op.operands.toList, RepV (avoid A0 os') os' w (a.eval x) (ev s x) := fun x hx => by rw [← he x hx]; exact hr.ev x
  have hf := hops f (by rw [ho]; simp [Op.operands, Call.operands])
  rw [ef] at hf
  obtain ⟨vs, hv, hlv, hpv⟩ := hf.fn_inv
  obtain ⟨h1, h2⟩ := args_rep (os := os') (A := avoid A0 os') (w := w) (a := a) (l := args.toList) (ρ := ev s) rfl (fun x hx => hops x (by rw [ho]; simp only [Op.operands, Call.operands, Array.toList_append, List.mem_append]; exact .inr hx)) hlv hpv
  have hlend := hgen s'.loc (fun d hdm k hk => hl k (.inl (by
    rcases List.mem_append.1 hdm with hdm | hdm
    · obtain ⟨x, hx, rfl⟩ := List.mem_map.1 hdm
      refine List.mem_append.2 (.inl (refs_in (x := x) ?_ hk))
      rw [ho]
      simp only [Op.operands, Call.operands, Array.toList_append, List.mem_append]
      exact .inr hx
    · exact List.mem_append.2 (.inr (List.mem_flatMap.2 ⟨d, hdm, hk⟩))))) (fun l => l = l1) rfl
  obtain ⟨l, rfl, hall⟩ := lendA_ok (J := ownIx (owns (args.toList.map (ev s) ++ caps))) hr _ _ h1 h2 (fun d j hd hj => own_ix hd hj) hlend
  have hlj : isRow (lget s'.loc j) = true := by rw [hl j (.inr ⟨_, List.mem_cons_self⟩)]; exact hrow
  obtain ⟨e, sz, es, hlj⟩ : ∃ e sz es, lget s'.loc j = .row e sz es := by
    cases hq : lget s'.loc j <;> rw [hq] at hlj <;> first | exact ⟨_, _, _, rfl⟩ | (simp [isRow] at hlj)
  rw [hr.loc] at hlj
  obtain ⟨xv, hi⟩ := lget_os hlj (by simp)
  unfold Oper.wp
  rw [call_exec ho hv hret.1]
  refine (hret.2 _ w _ (fun b hb => ?_) (hall.le hle)).mono fun e w' he => ?_
  · rcases hb with hb | ⟨i, x, o', hi, hd, _, hbb⟩
    · exact hr.a0_lt hb
    · exact ((hr.obj i x o' hi).blk_ge hd hbb).2
  · obtain ⟨v, rfl, him, hg⟩ := he
    have hp := (hr.grown hg).goneRow hi
    refine Nx.put hp hd (.imm (him.keep (Keeps.less (fun b hb => ?_)))) putK_app'
    rcases hb with hb | ⟨i, x, o', hi2, hd2, hbb⟩
    · exact .inl hb
    · by_cases hij : i = j
      · subst hij
        rw [List.getElem?_set_self (List.getElem?_eq_some_iff.1 hi).1] at hi2
        cases hi2
        simp [blk] at hbb
      · rw [List.getElem?_set_ne (fun e => hij e.symm)] at hi2
        refine .inr ⟨i, x, o', hi2, hd2, ?_, hbb⟩
        rw [hs]
        simpa [ownIx, hIx] using hij
theorem immAll_both {A : Nat → Prop} {w : World} : ∀ {vs : List Value} {ds : List DV}, ImmAll A w vs ds → vs.length = ds.length ∧ ∀ (i : Nat) v d, vs[i]? = some v → ds[i]? = some d → Imm A w v d
  | [], [], _ => ⟨rfl, fun i v d h => by simp at h⟩
  | [], _ :: _, h => h.elim
  | _ :: _, [], h => h.elim
  | v :: vs, d :: ds, h => by
    obtain ⟨h1, h2⟩ := immAll_both h.2
    refine ⟨by simp [h1], fun i v' d' hv hd => ?_⟩
    cases i with
    | zero =>
      simp only [List.getElem?_cons_zero, Option.some.injEq] at hv hd
      subst hv hd
      exact h.1
    | succ i => exact h2 i v' d' (by simpa using hv) (by simpa using hd)
theorem runs_callMG {f : Operand} {k : FuncId} {caps : List DV} {args : Array Operand} {ats : Array TypeId} {K : TE → Nat → Prop} (ho : o.op = .call { callee := .value f, args := args, argTypes := ats }) (hd : ∀ t, o.dst = some t → t < n) (ef : ev s f = .fn (.func k) caps)
    (h : ropMG P k (args.toList.map (ev s) ++ caps) s idx o.dst (opRefs (ev s) o.op.operands.toList ++ caps.flatMap refs) K) : ∃ te i, K te i ∧ Runs P A0 w0 n o te s E := by
  unfold ropMG at h
  split at h
  · rename_i j hs
    split at h
    · rename_i hrow
      obtain ⟨l1, ⟨args0, L', d, hret, hck, hle, hK⟩, hgen⟩ := lendA_loc h
      simp only [Bool.and_eq_true] at hck
      obtain ⟨⟨⟨hkept, hba⟩, hnd⟩, hfree⟩ := hck
      refine ⟨_, _, hK, fun os' s' a w hr he hl hlen => ?_⟩
      generalize hnews : from' idx L'.length = news at *
      have hnl : news.length = L'.length := by rw [← hnews, from_len]
      simp only [List.all_eq_true] at hfree
      have hops : ∀ x ∈ o.op.operands.toList, RepV (avoid A0 os') os' w (a.eval x) (ev s x) := fun x hx => by rw [← he x hx]; exact hr.ev x
      have hf := hops f (by rw [ho]; simp [Op.operands, Call.operands])
      rw [ef] at hf
      obtain ⟨vs, hv, hlv, hpv⟩ := hf.fn_inv
      obtain ⟨h1, h2⟩ := args_rep (os := os') (A := avoid A0 os') (w := w) (a := a) (l := args.toList) (ρ := ev s) rfl (fun x hx => hops x (by rw [ho]; simp only [Op.operands, Call.operands, Array.toList_append, List.mem_append]; exact .inr hx)) hlv hpv
      have hlend := hgen s'.loc (fun d hdm k hk => hl k (.inl (by
        rcases List.mem_append.1 hdm with hdm | hdm
        · obtain ⟨x, hx, rfl⟩ := List.mem_map.1 hdm
          refine List.mem_append.2 (.inl (refs_in (x := x) ?_ hk))
          rw [ho]
          simp only [Op.operands, Call.operands, Array.toList_append, List.mem_append]
          exact .inr hx
        · exact List.mem_append.2 (.inr (List.mem_flatMap.2 ⟨d, hdm, hk⟩))))) (fun l => l = l1) rfl
      obtain ⟨l, rfl, hall⟩ := lendA_ok (J := ownIx (owns (args.toList.map (ev s) ++ caps))) hr _ _ h1 h2 (fun d j hd hj => own_ix hd hj) hlend
      have hlj : isRow (lget s'.loc j) = true := by rw [hl j (.inr ⟨_, List.mem_cons_self⟩)]; exact hrow
      obtain ⟨e, sz, es, hlj⟩ : ∃ e sz es, lget s'.loc j = .row e sz es := by
        cases hq : lget s'.loc j <;> rw [hq] at hlj <;> first | exact ⟨_, _, _, rfl⟩ | (simp [isRow] at hlj)
      have hljl := hlj
      rw [hr.loc] at hlj
      obtain ⟨xv, hi⟩ := lget_os hlj (by simp)
      have hg := hr.goneRow hi
      have hfr : ∀ i ∈ news, ∃ y, (os'.set j (.nilFunc, .gone))[i]? = some (y, .dead) := by
        intro i hi2
        obtain ⟨b1, b2⟩ := freeAt_iff (hfree i hi2)
        have hq2 : ∃ ob, (i, ob) ∈ (j, LObj.gone) :: news.zip (L'.map (mvO (nth news))) := by
          obtain ⟨q, hq, rfl⟩ := List.getElem_of_mem hi2
          have hq3 : q < (L'.map (mvO (nth news))).length := by simp only [List.length_map]; omega
          exact ⟨_, List.mem_cons_of_mem _ (List.mem_of_getElem? (i := q) (List.getElem?_zip_eq_some.2 ⟨List.getElem?_eq_getElem hq, List.getElem?_eq_getElem hq3⟩))⟩
        have hdl := (hl i (.inr hq2)).trans b2
        have hne : i ≠ j := by
          rintro rfl
          rw [hljl] at hdl
          cases hdl
        obtain ⟨y, hy⟩ := free_os hr hdl (by omega)
        exact ⟨y, by rw [List.getElem?_set_ne (fun e => hne e.symm)]; exact hy⟩
      have hav : ∀ b, avoidX A0 (os'.set j (.nilFunc, .gone)) [] b → avoidX A0 os' (ownIx (owns (args.toList.map (ev s) ++ caps))) b := by
        rintro b (hb | ⟨i, x, o', hi2, hd2, _, hbb⟩)
        · exact .inl hb
        · by_cases hij : i = j
          · subst hij
            rw [List.getElem?_set_self (List.getElem?_eq_some_iff.1 hi).1] at hi2
            cases hi2
            simp [blk] at hbb
          · rw [List.getElem?_set_ne (fun e => hij e.symm)] at hi2
            refine .inr ⟨i, x, o', hi2, hd2, ?_, hbb⟩
            rw [hs]
            simpa [ownIx, hIx] using hij
      obtain ⟨hvl, hvp⟩ := immAll_both (hall.le hle)
      have core := callM_core (pass := []) (news := news) (J := []) hg hret (fun k i hk => by simp at hk) hkept rfl (nodupB_iff hnd) (by simp) hfr (by simp; omega) rfl hba trivial (vals := args.toList.map a.eval ++ vs) hvl (fun i v d hv hd => (RepV.ren (A := avoidX A0 (os'.set j (.nilFunc, .gone)) []) (os := []) (ρ := nth ([] ++ news)) (fun k x ob _ _ h => by simp at h) (Keeps.refl _ _) (.imm ((hvp i v d hv hd).keep (Keeps.less hav)))).2)
      unfold Oper.wp
      rw [call_exec ho hv hret.1]
      refine core.mono fun e w' hx => ?_
      obtain ⟨v, os2, rfl, hr2, hv2⟩ := hx
      refine Nx.put hr2 hd hv2 ?_
      have e1 : afterC ⟨s'.env, lset s'.loc j .gone⟩ ([] ++ news) [] L' = ⟨s'.env, setAll (lset s'.loc j .gone) news (L'.map (mvO (nth news)))⟩ := rfl
      rw [e1, ← lsets_zip]
      refine putK_iff.2 ?_
      cases o.dst <;> rfl
    · exact h.elim
  · exact h.elim
theorem rop1_ok (hT : tabOk P tt = true) (h0 : (tinfo tt 0).size = 0) (hd : ∀ t, o.dst = some t → t < n) {K : TE → Nat → Prop} (h : rop1 tt P o idx s K) : ∃ te idx', K te idx' ∧ Runs P A0 w0 n o te s E := by
  unfold rop1 at h
  split at h
  · obtain ⟨c, d, hK, hgen⟩ := gen_dval _ h
    obtain ⟨hc, hK⟩ := needs_iff.1 hK
    exact ⟨_, _, hK, runs_val' (wrap := fun d => d) hT h0 hd hgen hc (fun h => h) (fun h => h)⟩
  · split at h
    · rename_i t ho
      split at h
      · rename_i m hs hf
        exact ⟨_, _, h, runs_alloc hT ho hd (by omega) hf⟩
      · exact h.elim
    · rename_i t x ho
      split at h
      · rename_i hf
        have h := frc_cases h
        split at h
        · rename_i cs e
          exact ⟨_, _, forceC_iff.1 h, runs_box (d := .agg cs) ho hd hf e (by simp) (by simp) (by simp)⟩
        · exact h.elim
        · exact h.elim
        · exact h.elim
        · rename_i d h1 h2 h3 h4
          have hdc : dcells (ev s x) = [ev s x] := by
            generalize ev s x = d at *
            cases d <;> first | rfl | exact absurd rfl (h1 _)
          refine ⟨_, _, h, ?_⟩
          rw [← hdc]
          exact runs_box ho hd hf rfl (fun b d' e => h2 b d' e) (fun l e => h3 l e) (fun e => h4 e)
      · exact h.elim
    · rename_i args ats ho
      split at h
      · rename_i x y t t' ha hat
        split at h
        · rename_i e htt hk
          split at h
          · exact h.elim
          · rename_i hs
            exact runs_append hT ho ha hat (Nat.eq_of_beq_eq_true htt) hk hs hd h
        · exact h.elim
      · exact h.elim
    · rename_i args ats ho
      split at h
      · rename_i x y t t' ha hat
        split at h
        · rename_i e htt hk
          split at h
          · exact h.elim
          · rename_i hs
            obtain ⟨te, hK, hr⟩ := runs_copy (A0 := A0) (w0 := w0) (E := E) hT ho ha hat (Nat.eq_of_beq_eq_true htt) hk hs hd h
            exact ⟨te, _, hK, hr⟩
        · exact h.elim
      · exact h.elim
    · rename_i t x y ho
      have h := frc_cases h
      split at h
      · exact h.elim
      · exact h.elim
      · exact h.elim
      · rename_i d h1 h2 h3
        obtain ⟨te, hK, hr⟩ := runs_store (A0 := A0) (w0 := w0) (E := E) hT ho hd rfl (fun b d' e => h1 b d' e) (fun l e => h2 l e) (fun e => h3 e) h
        exact ⟨te, _, hK, hr⟩
    · rename_i t m parts ho
      split at h
      · rename_i e hk
        split at h
        · rename_i m1 hs hb
          split at h
          · split at h
            · rename_i hf
              obtain ⟨es, hK, hr⟩ := runs_buildSlice0 (A0 := A0) (w0 := w0) (E := E) hT ho hk (by omega) (Nat.le_of_ble_eq_true hb) hf hd h
              exact ⟨_, _, hK, hr⟩
            · exact h.elim
          · obtain ⟨w, h⟩ := h
            cases w with
            | false =>
              obtain ⟨es, hK, hr⟩ := runs_buildSlice (A0 := A0) (w0 := w0) (E := E) hT ho hk (by omega) (Nat.le_of_ble_eq_true hb) hd h
              exact ⟨_, _, hK, hr _⟩
            | true =>
              simp only at h
              split at h
              · rename_i hf
                obtain ⟨es, hK, hr⟩ := runs_buildSlice0 (A0 := A0) (w0 := w0) (E := E) hT ho hk (by omega) (Nat.le_of_ble_eq_true hb) hf hd h
                exact ⟨_, _, hK, hr⟩
              · exact h.elim
        · exact h.elim
      · exact h.elim
    · rename_i t l c ho
      split at h
      · rename_i e hk
        split at h
        · rename_i m1 kl lv kc cv hs el ec hf
          obtain ⟨m, N, rfl, rfl, hmN, hb, hM, hK⟩ := h
          exact ⟨_, _, hK, runs_makeSlice hT ho hk (by omega) hf hd el ec hmN hb hM⟩
        · exact h.elim
      · exact h.elim
    · rename_i f args ats ho
      split at h
      · rename_i k caps ef
        have h := evL_elim h
        rcases h with h | h
        rotate_left
        · split at h
          · rcases h with h | h
            · exact runs_callM ho hd ef h
            · exact runs_callMG ho hd ef h
          · exact runs_callM ho hd ef h
        obtain ⟨l1, ⟨l', r, hle, hret, hK⟩, hgen⟩ := lendA_loc h
        have run := fun hs => runs_call (P := P) (w0 := w0) (E := E) (wrap := fun d => d) (A0 := A0) (ρ := ev s) ho hd (fun h => h) ef (fun h => h) hgen hle hret hs
        split at hK
        · rename_i hs
          exact ⟨_, _, hK, run (.inl hs)⟩
        · split at hK
          · rename_i hs
            exact ⟨_, _, hK, run (.inr hs)⟩
          · split at hK
            · rename_i j hs
              split at hK
              · rename_i hrow
                exact ⟨_, _, hK, runs_callG ho hd ef hgen hle hret hs hrow⟩
              · exact hK.elim
            · exact hK.elim
      · exact h.elim
    · exact h.elim

def Skips (A0 : Nat → Prop) (w0 : Home) (n : Nat) (o : Oper) (te : TE) : Prop :=
  ∀ (os' : Objs) (s' : DS) (a : Act) (w : World), Rep A0 w0 n os' s' a w → Nx A0 w0 n (fun s'' => s'' = te.app s') (a.put o.dst undef) w
theorem skips_gone (hd : ∀ t, o.dst = some t → t < n) {d : DV} {rd : List Nat} : Skips A0 w0 n o ⟨dputs o.dst (.wh false d), rd, [], []⟩ := fun os' s' a w h => Nx.put h hd rep_gone putK_app
theorem openK_ex {g : Bool} (hg : g = true) : ∀ {l : List Operand} {s : DS} {K : DS → Prop}, openK g l s K → ∃ ps : List (Nat × DV), K ⟨ps ++ s.env, s.loc⟩ ∧ (∀ t ∈ ps.map (·.1), .tmp t ∈ l) ∧
    ∀ (t : Nat) (A : Nat → Prop) (os : Objs) (w : World) (x : Value), RepV A os w x (look (ps ++ s.env) t) ↔ RepV A os w x (look s.env t)
  | [], s, K, h => ⟨[], h, by simp, fun t A os w x => Iff.rfl⟩
  | .tmp t :: r, s, K, h => by
    unfold openK at h
    split at h
    · rename_i g' d e
      obtain ⟨h1, h⟩ := h
      obtain ⟨ps, hK, hin, hR⟩ := openK_ex hg h
      have hg' := h1 hg
      subst hg'
      refine ⟨ps ++ [(t, d)], by rw [List.append_assoc]; exact hK, fun t' ht' => ?_, fun t' A os w x => ?_⟩
      · rw [List.map_append, List.mem_append] at ht'
        rcases ht' with ht' | ht'
        · exact List.mem_cons_of_mem _ (hin t' ht')
        · simp at ht'
          subst ht'
          exact List.mem_cons_self ..
      · rw [List.append_assoc]
        refine (hR t' A os w x).trans ?_
        simp only [List.cons_append, List.nil_append, look]
        split
        · rename_i hb
          have := Nat.eq_of_beq_eq_true hb
          subst this
          rw [e]
          exact ⟨fun h => .wh (fun _ => h) (fun e => by cases e), fun h => h.wh_inv.1 rfl⟩
        · exact Iff.rfl
    · obtain ⟨ps, hK, hin, hR⟩ := openK_ex hg h
      exact ⟨ps, hK, fun t' ht' => List.mem_cons_of_mem _ (hin t' ht'), hR⟩
  | .const v :: r, s, K, h => by
    obtain ⟨ps, hK, hin, hR⟩ := openK_ex hg (l := r) (by unfold openK at h; exact h)
    exact ⟨ps, hK, fun t' ht' => List.mem_cons_of_mem _ (hin t' ht'), hR⟩
  | .global v :: r, s, K, h => by
    obtain ⟨ps, hK, hin, hR⟩ := openK_ex hg (l := r) (by unfold openK at h; exact h)
    exact ⟨ps, hK, fun t' ht' => List.mem_cons_of_mem _ (hin t' ht'), hR⟩
  | .func v :: r, s, K, h => by
    obtain ⟨ps, hK, hin, hR⟩ := openK_ex hg (l := r) (by unfold openK at h; exact h)
    exact ⟨ps, hK, fun t' ht' => List.mem_cons_of_mem _ (hin t' ht'), hR⟩
theorem runs_open {te : TE} {ps : List (Nat × DV)} (hin : ∀ t ∈ ps.map (·.1), .tmp t ∈ o.op.operands.toList)
    (hR : ∀ (t : Nat) (A : Nat → Prop) (os : Objs) (w : World) (x : Value), RepV A os w x (look (ps ++ s.env) t) ↔ RepV A os w x (look s.env t)) (h : Runs P A0 w0 n o te ⟨ps ++ s.env, s.loc⟩ E) : Runs P A0 w0 n o te s E := by
  intro os' s' a w hr he hl hlen
  have key : ∀ (t : Nat) (A : Nat → Prop) (os : Objs) (w : World) (x : Value), RepV A os w x (look (ps ++ s'.env) t) ↔ RepV A os w x (look s'.env t) := fun t A os w x => by
    by_cases ht : t ∈ ps.map (·.1)
    · rw [look_in (e' := s.env) ht, hR t A os w x]
      have := he _ (hin t ht)
      simp only [ev] at this
      rw [this]
    · rw [look_notin ht]
  have h1 := h os' ⟨ps ++ s'.env, s'.loc⟩ a w ⟨hr.size, hr.defers, hr.gr, hr.a0, hr.loc, fun t => (key t _ _ _ _).2 (hr.env t), hr.obj, hr.inj⟩ (fun x hx => by
    cases x with
    | tmp t =>
      simp only [ev]
      by_cases ht : t ∈ ps.map (·.1)
      · exact look_in ht
      · rw [look_notin ht, look_notin ht]
        exact he _ hx
    | const v => rfl
    | global g => rfl
    | func f => rfl) hl hlen
  refine Oper.wp_mono (fun a1 w1 hn => ?_) h1
  obtain ⟨os2, s2, hr2, rfl⟩ := hn
  refine ⟨os2, te.app s', ⟨hr2.size, hr2.defers, hr2.gr, hr2.a0, hr2.loc, fun t => ?_, hr2.obj, hr2.inj⟩, rfl⟩
  have hv := hr2.env t
  by_cases ht : te.slot t
  · rw [app_slot_eq (s' := te.app ⟨ps ++ s'.env, s'.loc⟩) ht] at *
    exact hv
  · rw [app_slot_ne ht] at hv ⊢
    exact (key t _ _ _ _).1 hv
theorem ropG_ok (hT : tabOk P tt = true) (h0 : (tinfo tt 0).size = 0) (hd : ∀ t, o.dst = some t → t < n) {g : Bool} {K : TE → Nat → Prop} (h : ropG tt P o g idx s K) :
    ∃ te idx', K te idx' ∧ (g = true → Runs P A0 w0 n o te s E) ∧ (g = false → Skips A0 w0 n o te) := by
  unfold ropG at h
  split at h
  · rename_i c x y ho
    obtain ⟨c', d, hK, hgen⟩ := gen_dgPick _ h
    obtain ⟨hc, hK⟩ := needs_iff.1 hK
    refine ⟨_, _, hK, fun hg => ?_, fun hg => by subst hg; exact skips_gone hd⟩
    subst hg
    intro os' s' a w hr he hl _
    have hop : ∀ z ∈ o.op.operands.toList, RepV (avoid A0 os') os' w (a.eval z) (ev s z) := fun z hz => by rw [← he z hz]; exact hr.ev z
    rw [ho] at hop
    obtain ⟨_, _, ⟨rfl, rfl⟩, hg⟩ := dgPick_ok (P := P) (A := avoid A0 os') (os := os') (w := w) (a := a) ho (fun hR => by
      obtain ⟨c0, hR, hh⟩ := oblAll_ok2 hR
      exact ⟨c0, hR, fun hc => hh (fun z hz => hop z (by simp [Op.operands] at hz ⊢; exact .inl hz)) hc rfl _ (by simp)⟩) (hop x (by simp [Op.operands])) (hop y (by simp [Op.operands])) (hgen (fun c2 d' => c2 = c' ∧ d' = d) ⟨rfl, rfl⟩)
    obtain ⟨x, hrun, hrx⟩ := hg hc
    exact wp_value hrun (Nx.put hr hd (.wh (fun _ => hrx) (fun e => by cases e)) putK_app)
  · split at h
    · obtain ⟨c0, h, hob⟩ := oblAll_ok2 h
      obtain ⟨c, d, hK, hgen⟩ := gen_dval _ h
      obtain ⟨hc, hK⟩ := needs_iff.1 hK
      refine ⟨_, _, hK, fun hg => ?_, fun hg => by subst hg; exact skips_gone hd⟩
      subst hg
      obtain ⟨hc0, hc1⟩ := Holds.andO.1 hc
      have hcc : Holds c := by
        cases c with
        | none => exact Holds.none'
        | some p => exact Holds.some_iff.2 (Holds.some_iff.1 hc1 rfl)
      exact runs_val (wrap := .wh true) hT h0 hd hgen hcc (fun h => hob h hc0 rfl) (fun h => .wh (fun _ => h) (fun e => by cases e))
    · split at h
      · rename_i f args ats ho
        split at h
        · rename_i k caps ef
          split at h
          · obtain ⟨c0, h, hob⟩ := oblAll_ok2 h
            have h := evL_elim h
            obtain ⟨l1, ⟨l', r, hle, hret, hK⟩, hgen⟩ := lendA_loc h
            obtain ⟨hc0, hK⟩ := needs_iff.1 hK
            have run := fun (hg : g = true) hs => runs_call (P := P) (w0 := w0) (E := E) (wrap := .wh true) (A0 := A0) (ρ := bare s) ho hd (fun h => hob h hc0 hg) ef (fun h => .wh (fun _ => h) (fun e => by cases e)) hgen hle (hret hg) hs
            split at hK
            · rename_i hs
              exact ⟨_, _, hK, fun hg => by have := run hg (.inl hs); subst hg; exact this, fun hg => by subst hg; exact skips_gone hd⟩
            · split at hK
              · rename_i hs
                exact ⟨_, _, hK, fun hg => by have := run hg (.inr hs); subst hg; exact this, fun hg => by subst hg; exact skips_gone hd⟩
              · exact hK.elim
          · cases g with
            | true =>
              obtain ⟨ps, h, hin, hR⟩ := openK_ex rfl h
              obtain ⟨te, i, hK, hr⟩ := h.elim (runs_callR (A0 := A0) (w0 := w0) (E := E) hd) (rop1_ok (A0 := A0) (w0 := w0) (E := E) hT h0 hd)
              exact ⟨te, i, hK, fun _ => runs_open hin hR hr, fun e => by cases e⟩
            | false =>
              have h : ∃ d : DV, K ⟨dputs o.dst (.wh false d), [], [], []⟩ idx := h
              obtain ⟨d, h⟩ := h
              exact ⟨_, _, h, (fun e => by cases e), fun _ => skips_gone hd⟩
        · exact h.elim
      · cases g with
        | true =>
          obtain ⟨te, i, hK, hr⟩ := rop1_ok (A0 := A0) (w0 := w0) (E := E) hT h0 hd h
          exact ⟨te, i, hK, fun _ => hr, fun e => by cases e⟩
        | false =>
          have h : K ⟨dputs o.dst (.wh false (.v (.bool false))), [], [], []⟩ idx := h
          exact ⟨_, _, h, (fun e => by cases e), fun _ => skips_gone hd⟩

def RunsW (P : Program) (A0 : Nat → Prop) (w0 : Home) (n : Nat) (ops : Array Oper) (o : Oper) (te : TE) (s : DS) (E : Exit → Act → World → Prop) : Prop :=
  ∀ (os' : Objs) (s' : DS) (a : Act) (w : World), Rep A0 w0 n os' s' a w → (∀ t ∈ o.looksAt ops, look s'.env t = look s.env t) → (∀ k, (k ∈ te.rd ∨ te.obj k) → lget s'.loc k = lget s.loc k) → s'.loc.length = s.loc.length →
    if Region.wanted o (yielded ops a.tmps) then o.wp P a w (Nx A0 w0 n fun s'' => s'' = te.app s') E else Nx A0 w0 n (fun s'' => s'' = te.app s') (a.put o.dst undef) w
theorem looks_ev (h : ∀ t ∈ o.looksAt ops, look s'.env t = look s.env t) : ∀ x ∈ o.op.operands.toList, ev s' x = ev s x := by
  intro x hx
  cases x with
  | tmp t =>
    refine h t ?_
    simp only [Oper.looksAt, List.mem_append, List.mem_filterMap]
    exact .inl ⟨_, hx, rfl⟩
  | const v => rfl
  | global g => rfl
  | func f => rfl
theorem looks_guard {j : Nat} {want : Bool} (hg : o.guard = some (j, want)) (h : ∀ t ∈ o.looksAt ops, look s'.env t = look s.env t) : guardOf ops.toList s' j = guardOf ops.toList s j := by
  unfold guardOf
  split
  · rename_i oj hoj
    split
    · rename_i t ht
      refine h t ?_
      simp only [Oper.looksAt, hg, List.mem_append]
      refine .inr ?_
      simp only [Array.getElem?_toList] at hoj
      simp [hoj, ht]
    · rfl
  · rfl
theorem guard_yield {j : Nat} (h : Rep A0 w0 n os s a w) :
    (∀ b, guardOf ops.toList s j = .v (.bool b) → yielded ops a.tmps j = some b) ∧ (∀ g b, guardOf ops.toList s j = .wh g (.v (.bool b)) → (g = true → yielded ops a.tmps j = some b) ∧ (g = false → yielded ops a.tmps j = none)) := by
  have hy : ∀ d, guardOf ops.toList s j = d → d ≠ .junk → ∃ t, (ops[j]?).bind (·.dst) = some t ∧ look s.env t = d := by
    intro d e hj
    unfold guardOf at e
    split at e
    · rename_i oj hoj
      split at e
      · rename_i t ht
        exact ⟨t, by simp only [Array.getElem?_toList] at hoj; simp [hoj, ht], e⟩
      · exact absurd e.symm hj
    · exact absurd e.symm hj
  have some_of : ∀ (t : Nat) (b : Bool), (ops[j]?).bind (·.dst) = some t → a.tmps.getD t undef = .bool b → yielded ops a.tmps j = some b := by
    intro t b ht hv
    have hlt : t < a.tmps.size := by
      rcases Nat.lt_or_ge t a.tmps.size with hlt | hge
      · exact hlt
      · rw [Array.getD_eq_getD_getElem?, Array.getElem?_eq_none hge] at hv
        cases hv
    rw [Array.getD_eq_getD_getElem?, Array.getElem?_eq_getElem hlt] at hv
    simp only [Option.getD_some] at hv
    simp [yielded, ht, hlt, hv]
  refine ⟨fun b e => ?_, fun g b e => ⟨fun hgv => ?_, fun hgv => ?_⟩⟩
  · obtain ⟨t, ht, hlk⟩ := hy _ e (by simp)
    have hv := h.env t
    rw [hlk] at hv
    exact some_of t b ht hv.v_inv.1
  · obtain ⟨t, ht, hlk⟩ := hy _ e (by simp)
    have hv := h.env t
    rw [hlk] at hv
    exact some_of t b ht (hv.wh_inv.1 hgv).v_inv.1
  · obtain ⟨t, ht, hlk⟩ := hy _ e (by simp)
    have hv := h.env t
    rw [hlk] at hv
    have hv := hv.wh_inv.2 hgv
    have : a.tmps[t]? = none ∨ a.tmps[t]? = some undef := by
      rw [Array.getD_eq_getD_getElem?] at hv
      cases ht : a.tmps[t]? with
      | none => exact .inl rfl
      | some v => rw [ht] at hv; exact .inr (by simpa using hv)
    rcases this with h1 | h1 <;> simp [yielded, ht, h1, undef]
theorem rop_ok (hT : tabOk P tt = true) (h0 : (tinfo tt 0).size = 0) (hd : ∀ t, o.dst = some t → t < n) {K : TE → Nat → Prop} (h : rop tt P ops.toList o idx s K) : ∃ te idx', K te idx' ∧ RunsW P A0 w0 n ops o te s E := by
  unfold rop at h
  split at h
  · rename_i hg
    obtain ⟨te, i, hK, hr⟩ := rop1_ok (A0 := A0) (w0 := w0) (E := E) hT h0 hd h
    refine ⟨te, i, hK, fun os' s' a w h1 h2 h3 h4 => ?_⟩
    rw [if_pos (by simp [Region.wanted, hg])]
    exact hr os' s' a w h1 (looks_ev h2) h3 h4
  · rename_i j want hg
    split at h
    · rename_i b e
      obtain ⟨te, i, hK, hr1, hr2⟩ := ropG_ok (A0 := A0) (w0 := w0) (E := E) hT h0 hd (wantK_iff.1 h)
      refine ⟨te, i, hK, fun os' s' a w h1 h2 h3 h4 => ?_⟩
      have hyl := (guard_yield (ops := ops) (j := j) h1).1 b ((looks_guard hg h2).trans e)
      by_cases hb : b = want
      · subst hb
        rw [if_pos (by simp [Region.wanted, hg, hyl])]
        exact hr1 (by cases b <;> rfl) os' s' a w h1 (looks_ev h2) h3 h4
      · rw [if_neg (by simp [Region.wanted, hg, hyl, hb])]
        exact hr2 (by cases b <;> cases want <;> simp at hb ⊢) os' s' a w h1
    · rename_i g b e
      obtain ⟨te, i, hK, hr1, hr2⟩ := ropG_ok (A0 := A0) (w0 := w0) (E := E) hT h0 hd (wantK_iff.1 h)
      refine ⟨te, i, hK, fun os' s' a w h1 h2 h3 h4 => ?_⟩
      have hyl := (guard_yield (ops := ops) (j := j) h1).2 g b ((looks_guard hg h2).trans e)
      cases hgv : g with
      | false =>
        have hyl := hyl.2 hgv
        rw [if_neg (by simp [Region.wanted, hg, hyl])]
        exact hr2 (by simp [hgv]) os' s' a w h1
      | true =>
        have hyl := hyl.1 hgv
        by_cases hb : b = want
        · subst hb
          rw [if_pos (by simp [Region.wanted, hg, hyl])]
          exact hr1 (by rw [hgv]; cases b <;> rfl) os' s' a w h1 (looks_ev h2) h3 h4
        · rw [if_neg (by simp [Region.wanted, hg, hyl, hb])]
          exact hr2 (by rw [hgv]; cases b <;> cases want <;> simp at hb ⊢) os' s' a w h1
    · exact h.elim
end
end Go.Lift

namespace Go.Lift
open Go

section
variable {P : Program} {tt : TT} {A0 : Nat → Prop} {w0 : Home} {n : Nat} {os : Objs} {s s' : DS} {a : Act} {w : World} {ops : Array Oper} {E : Exit → Act → World → Prop}

abbrev allT : Nat → Bool := fun _ => true
theorem stN_cons {te : TE} {tes : List TE} : ∀ i, stN (te :: tes) s allT (i + 1) = stN tes (te.app s) allT i
  | 0 => rfl
  | i + 1 => by
    have ih : stN (te :: tes) s allT (i + 1) = stN tes (te.app s) allT i := stN_cons i
    rw [stN, ih]
    simp only [List.getElem?_cons_succ]
    rfl
theorem consK_iff : ∀ {l e : List (Nat × DV)} {K : List (Nat × DV) → Prop}, consK l e K ↔ K (l ++ e)
  | [], e, K => Iff.rfl
  | p :: r, e, K => consK_iff (l := r)
theorem appK_iff {te : TE} {K : DS → Prop} : te.appK s K ↔ K (te.app s) := by
  obtain ⟨puts, rd, wr, mv⟩ := te
  obtain ⟨e, l⟩ := s
  show consK puts e _ ↔ _
  rw [consK_iff]
  cases wr
  · exact Iff.rfl
  · exact forceL_iff
theorem mvK_ex : ∀ {m mvs : List (Nat × Nat)} {K : List (Nat × Nat) → Prop}, mvK mvs m K → ∃ mvs', K mvs'
  | [], mvs, K, h => ⟨mvs, h⟩
  | p :: r, mvs, K, h => mvK_ex (m := r) h
theorem drops_ok (hT : tabOk P tt = true) (h0 : (tinfo tt 0).size = 0) {K : List TE → List (Nat × Nat) → DS → Prop} : ∀ (l : List Oper) {idx : Nat} {acc : List TE} {mvs : List (Nat × Nat)} {s : DS}, l.all (dstOk n) = true → drops tt P ops.toList l idx acc mvs K s →
    ∃ tes mvs', tes.length = l.length ∧ K (acc ++ tes) mvs' (stN tes s allT l.length) ∧ ∀ (i : Nat) o te, l[i]? = some o → tes[i]? = some te → RunsW P A0 w0 n ops o te (stN tes s allT i) E
  | [], idx, acc, mvs, s, _, h => ⟨[], mvs, rfl, by simp only [List.append_nil]; exact h, fun i o te h1 _ => by simp at h1⟩
  | o :: r, idx, acc, mvs, s, hl, h => by
    simp only [List.all_cons, Bool.and_eq_true] at hl
    unfold drops at h
    obtain ⟨te, idx', h, hr⟩ := rop_ok (A0 := A0) (w0 := w0) (E := E) hT h0 (dstOk_lt hl.1) h
    obtain ⟨mvs1, h⟩ := mvK_ex (appK_iff.1 h)
    obtain ⟨tes, mvs', h1, h2, h3⟩ := drops_ok hT h0 r hl.2 h
    refine ⟨te :: tes, mvs', by simp [h1], ?_, fun i o' te' hi hte => ?_⟩
    · rw [List.length_cons, stN_cons]
      simpa using h2
    · cases i with
      | zero =>
        simp at hi hte
        subst hi; subst hte
        exact hr
      | succ i =>
        rw [stN_cons]
        exact h3 i o' te' (by simpa using hi) (by simpa using hte)

theorem Rep.congr (h : Rep A0 w0 n os s' a w) (hl : s.loc = s'.loc) (he : ∀ t, look s.env t = look s'.env t) : Rep A0 w0 n os s a w :=
  ⟨h.size, h.defers, h.gr, h.a0, hl.trans h.loc, fun t => by rw [he]; exact h.env t, h.obj, h.inj⟩
theorem lget_ext {l l' : List LObj} (hl : l.length = l'.length) (h : ∀ k, lget l k = lget l' k) : l = l' := by
  refine List.ext_getElem hl (fun i h1 h2 => ?_)
  have := h i
  rw [lget_eq, lget_eq, List.getElem?_eq_getElem h1, List.getElem?_eq_getElem h2] at this
  simpa using this

variable {tr : List TE} {s0 : DS} {N : Nat}
def Sof (listed : Array Bool) (j : Nat) : Bool := listed.getD j false
def Inv (A0 : Nat → Prop) (w0 : Home) (n : Nat) (tr : List TE) (s0 : DS) (N : Nat) (S : Nat → Bool) (a : Act) (w : World) : Prop :=
  ∃ os' s', Rep A0 w0 n os' s' a w ∧ (∀ t, look s'.env t = look (stN tr s0 S N).env t) ∧ (∀ k, lget s'.loc k = lget (stN tr s0 S N).loc k) ∧ s'.loc.length = s0.loc.length
theorem reach_in {S : Nat → Bool} (hdc : ∀ i o, S i = true → ops[i]? = some o → ∀ e ∈ o.after, Region.binds .any e = true → S e.on = true) {i j : Nat} (h : Reach ops i j) : S i = true → S j = true := by
  induction h with
  | edge ho he hb => exact fun hi => hdc _ _ hi ho _ he hb
  | trans _ _ ih1 ih2 => exact fun hi => ih2 (ih1 hi)
theorem reach_ready {S : Nat → Bool} (hdc : ∀ i o, S i = true → ops[i]? = some o → ∀ e ∈ o.after, Region.binds .any e = true → S e.on = true) {i j : Nat} (h : Reach ops i j) : (∀ o, ops[i]? = some o → ∀ e ∈ o.after, Region.binds .any e = true → S e.on = true) → S j = true := by
  induction h with
  | edge ho he hb => exact fun hi => hi _ ho _ he hb
  | trans _ h2 ih1 ih2 => exact fun hi => reach_in hdc h2 (ih1 hi)

theorem step_inv (hO : Ordered tr (looksOf ops) (Reach ops)) (hN : tr.length = ops.size) (hruns : ∀ (i : Nat) o te, ops[i]? = some o → tr[i]? = some te → RunsW P A0 w0 n ops o te (stN tr s0 allT i) E)
    {S : Nat → Bool} (hdc : ∀ i o, S i = true → ops[i]? = some o → ∀ e ∈ o.after, Region.binds .any e = true → S e.on = true) {i : Nat} {o : Oper} (ho : ops[i]? = some o) (hi : S i = false) (hr : ∀ e ∈ o.after, Region.binds .any e = true → S e.on = true)
    (h : Inv A0 w0 n tr s0 ops.size S a w) :
    if Region.wanted o (yielded ops a.tmps) then o.wp P a w (Inv A0 w0 n tr s0 ops.size fun j => S j || decide (j = i)) E else Inv A0 w0 n tr s0 ops.size (fun j => S j || decide (j = i)) (a.put o.dst undef) w := by
  obtain ⟨os', s', h1, h2, h3, h4⟩ := h
  have hiN := (Array.getElem?_eq_some_iff.1 ho).1
  have hte : tr[i]? = some (tr[i]'(by omega)) := List.getElem?_eq_getElem (by omega)
  generalize (tr[i]'(by omega)) = te at hte
  have hdc' : ∀ i j, S i = true → Reach ops i j → S j = true := fun i j hS hR => reach_in hdc hR hS
  have hr' : ∀ j, Reach ops i j → S j = true := fun j hR => reach_ready hdc hR (fun o' ho' => by rw [ho] at ho'; cases ho'; exact hr)
  have hlo : looksOf ops i = o.looksAt ops := by simp [looksOf, ho]
  have run := hruns i o te ho hte os' s' a w h1 (fun t ht => (h2 t).trans (find_slot hO hdc' hi hr' hiN (by rw [hlo]; exact ht))) (fun k hk => (h3 k).trans (find_obj hO hdc' hi hr' hiN hte hk)) (by rw [h4, stN_len])
  have fin : ∀ a' w', Nx A0 w0 n (fun s'' => s'' = te.app s') a' w' → Inv A0 w0 n tr s0 ops.size (fun j => S j || decide (j = i)) a' w' := by
    rintro a' w' ⟨os2, s2, hrep, rfl⟩
    have hc := app_congr (te := te) h2 h3 (by rw [h4, stN_len])
    exact ⟨os2, _, hrep, fun t => (hc.1 t).trans (next_slot hO hdc' hi hiN hte t).symm, fun k => (hc.2 k).trans (next_obj hO hdc' hi hiN hte k).symm, by rw [app_len, h4]⟩
  split
  · rename_i hw
    rw [if_pos hw] at run
    exact Oper.wp_mono fin run
  · rename_i hw
    rw [if_neg hw] at run
    exact fin _ _ run

theorem any_ok (hO : Ordered tr (looksOf ops) (Reach ops)) (hN : tr.length = ops.size) (hdn : edgesDown ops.toList 0 = true) (hruns : ∀ (i : Nat) o te, ops[i]? = some o → tr[i]? = some te → RunsW P A0 w0 n ops o te (stN tr s0 allT i) E)
    {K : DS → Prop} (hK : K (stN tr s0 allT ops.size)) (hE : ∀ a w, Nx A0 w0 n K a w → E .normal a w) :
    ∀ (fuel : Nat) (listed : Array Bool) (a : Act) (w : World), listed.size = ops.size → (∀ i o, Sof listed i = true → ops[i]? = some o → ∀ e ∈ o.after, Region.binds .any e = true → Sof listed e.on = true) →
      listed.toList.count false ≤ fuel → Inv A0 w0 n tr s0 ops.size (Sof listed) a w → wpAny P .any ops E fuel listed a w := by
  intro fuel
  have done : ∀ (listed : Array Bool) (a : Act) (w : World), listed.size = ops.size → Region.ready .any ops listed = [] → Inv A0 w0 n tr s0 ops.size (Sof listed) a w → E .normal a w := by
    intro listed a w hsz hr hinv
    have hall : ∀ i, i < ops.size → Sof listed i = true := by
      intro i
      induction i using Nat.strongRecOn with
      | _ i ih =>
        intro hi
        cases hS : Sof listed i with
        | true => rfl
        | false =>
          have : i ∈ Region.ready .any ops listed := by
            rw [mem_ready]
            refine ⟨?_, ops[i], Array.getElem?_eq_getElem hi, fun e he hb => ?_⟩
            · have hlt : i < listed.size := by omega
              simp only [Sof, Array.getD_eq_getD_getElem?, Array.getElem?_eq_getElem hlt, Option.getD_some] at hS ⊢
              exact hS
            · have := edges_get hdn (i := i) (o := ops[i]) (by simp [hi]) e he hb
              exact ih e.on (by omega) (by omega)
          rw [hr] at this
          cases this
    obtain ⟨os', s', h1, h2, h3, h4⟩ := hinv
    have hst : stN tr s0 (Sof listed) ops.size = stN tr s0 allT ops.size := stN_same _ (fun j hj => hall j hj)
    rw [hst] at h2 h3
    exact hE a w ⟨os', _, h1.congr (lget_ext (by rw [h4, stN_len]) (fun k => (h3 k).symm)) (fun t => (h2 t).symm), hK⟩
  induction fuel with
  | zero =>
    intro listed a w hsz hdc hcnt hinv
    have hr : Region.ready .any ops listed = [] := by
      rw [List.eq_nil_iff_forall_not_mem]
      intro i hi
      obtain ⟨h1, o, ho, _⟩ := mem_ready.1 hi
      have hlt : i < listed.size := by have := (Array.getElem?_eq_some_iff.1 ho).1; omega
      simp only [Array.getD_eq_getD_getElem?, Array.getElem?_eq_getElem hlt, Option.getD_some] at h1
      have : false ∈ listed.toList := by rw [← h1]; simp
      have := List.count_pos_iff.2 this
      omega
    exact ⟨hr, done listed a w hsz hr hinv⟩
  | succ fuel ih =>
    intro listed a w hsz hdc hcnt hinv
    refine ⟨fun hr => done listed a w hsz hr hinv, fun i hi => ?_⟩
    obtain ⟨h1, o, ho, hall⟩ := mem_ready.1 hi
    have hlt : i < listed.size := by have := (Array.getElem?_eq_some_iff.1 ho).1; omega
    have h1' : listed[i] = false := by simpa only [Array.getD_eq_getD_getElem?, Array.getElem?_eq_getElem hlt, Option.getD_some] using h1
    have hSi : Sof listed i = false := by simp only [Sof, Array.getD_eq_getD_getElem?, Array.getElem?_eq_getElem hlt, Option.getD_some, h1']
    have hS' : ∀ j, Sof (listed.setIfInBounds i true) j = (Sof listed j || decide (j = i)) := by
      intro j
      simp only [Sof, Array.getD_eq_getD_getElem?, Array.getElem?_setIfInBounds]
      by_cases e : i = j
      · subst e; simp [hlt]
      · have : j ≠ i := fun h => e h.symm
        simp [e, this]
    have hst := step_inv (P := P) (E := E) hO hN hruns hdc ho hSi hall hinv
    have next : ∀ a w, Inv A0 w0 n tr s0 ops.size (fun j => Sof listed j || decide (j = i)) a w → wpAny P .any ops E fuel (listed.setIfInBounds i true) a w := by
      intro a w hinv'
      refine ih _ a w (by simpa using hsz) (fun i' o' hi' ho' e he hb => ?_) ?_ ?_
      · rw [hS'] at hi' ⊢
        simp only [Bool.or_eq_true, decide_eq_true_eq] at hi' ⊢
        rcases hi' with hi' | rfl
        · exact .inl (hdc i' o' hi' ho' e he hb)
        · rw [ho] at ho'; cases ho'
          exact .inl (hall e he hb)
      · have hc := List.count_set (l := listed.toList) (i := i) (a := true) (b := false) (by simpa using hlt)
        have hpos : 0 < listed.toList.count false := List.count_pos_iff.2 (by rw [← h1']; simp)
        simp only [Array.toList_setIfInBounds]
        rw [hc, show (listed.toList[i]'(by simpa using hlt)) = false by simpa using h1']
        have e1 : (if (false == false) = true then 1 else 0 : Nat) = 1 := rfl
        have e2 : (if (true == false) = true then 1 else 0 : Nat) = 0 := rfl
        rw [e1, e2]
        omega
      · have : Sof (listed.setIfInBounds i true) = fun j => Sof listed j || decide (j = i) := funext hS'
        rw [this]
        exact hinv'
    unfold wpOp
    rw [ho]
    simp only
    split
    · rename_i hw
      rw [if_pos hw] at hst
      exact .inl (Oper.wp_mono next hst)
    · rename_i hw
      rw [if_neg hw] at hst
      exact next _ _ hst

theorem Imm.ren {A : Nat → Prop} {w : World} {x : Value} {d : DV} (i j : Nat) (h : Imm A w x d) : Imm A w x (ren0 i j d) ∧ Imm A w x (renT i j d) := by
  induction h with
  | v h => exact ⟨.v h, .v h⟩
  | lst xs hn hc hm hf hsz hA hb hone hcell hx _ => exact ⟨.lst xs hn hc hm hf hsz hA hb hone hcell hx, .lst xs hn hc hm hf hsz hA hb hone hcell hx⟩
  | nil => exact ⟨.nil, .nil⟩
  | nl => exact ⟨.nl, .nl⟩
  | agg hl hone h ih =>
    refine ⟨.agg hl hone h, .agg (by simpa using hl) hone (fun j v d hv hd => ?_)⟩
    rw [List.getElem?_map] at hd
    rename_i ds
    cases hj : ds[j]? with
    | none => rw [hj] at hd; cases hd
    | some e => rw [hj] at hd; simp at hd; subst hd; exact (ih j v e hv hj).1
  | @tup vs ds hl h _ =>
    refine ⟨.tup hl h, ?_⟩
    show Imm A w _ (tupJ ds)
    unfold tupJ
    split
    · exact .tup hl h
    · exact .junk
  | ip xs hA hb hone hcell hx _ => exact ⟨.ip xs hA hb hone hcell hx, .ip xs hA hb hone hcell hx⟩
  | fn hl h _ => exact ⟨.fn hl h, .fn hl h⟩
  | wh _ h0 ih => exact ⟨.wh (fun hb => (ih hb).1) h0, .wh (fun hb => (ih hb).2) h0⟩
  | junk => exact ⟨.junk, .junk⟩
theorem norm1_ok {p : Nat × Nat} (h : Rep A0 w0 n os s a w) : ∃ os', Rep A0 w0 n os' (norm1 s p) a w := by
  obtain ⟨i, j⟩ := p
  unfold norm1
  split
  · rename_i h1 h2
    simp only at h1 h2
    rw [h.loc] at h1 h2
    obtain ⟨x, e, sz, es, hi⟩ := isRow_os h1
    have hj : ∃ y, os[j]? = some (y, .gone) := by
      rw [lget_eq, List.getElem?_map] at h2
      cases hj : os[j]? with
      | none => rw [hj] at h2; simp [isGone] at h2
      | some p =>
        obtain ⟨y, o⟩ := p
        rw [hj] at h2
        cases o <;> simp [isGone] at h2
        exact ⟨y, rfl⟩
    obtain ⟨y, hj⟩ := hj
    have hij : i ≠ j := fun e => by subst e; rw [hi] at hj; cases hj
    have hli := (List.getElem?_eq_some_iff.1 hi).1
    have hlj := (List.getElem?_eq_some_iff.1 hj).1
    have hrow : lget s.loc i = .row e sz es := by rw [h.loc, lget_eq, List.getElem?_map, hi]; rfl
    rw [hrow]
    generalize hos : (((os.map fun p => (p.1, mapO (ren0 i j) p.2)).set j (x, .row e sz es)).set i (.nilFunc, .dead)) = os'
    have hoi : os'[i]? = some (.nilFunc, .dead) := by rw [← hos, List.getElem?_set_self (by simpa using hli)]
    have hoj : os'[j]? = some (x, .row e sz es) := by rw [← hos, List.getElem?_set_ne hij, List.getElem?_set_self (by simpa using hlj)]
    have hoth : ∀ {k : Nat}, k ≠ i → k ≠ j → os'[k]? = (os[k]?).map fun p => (p.1, mapO (ren0 i j) p.2) := by
      intro k h1 h2
      rw [← hos, List.getElem?_set_ne (fun e => h1 e.symm), List.getElem?_set_ne (fun e => h2 e.symm), List.getElem?_map]
    have hget : ∀ {k : Nat} {z : Value} {o' : LObj}, os'[k]? = some (z, o') → (k = j ∧ z = x ∧ o' = .row e sz es) ∨ (k = i ∧ z = .nilFunc ∧ o' = .dead) ∨ (k ≠ i ∧ k ≠ j ∧ ∃ o1, os[k]? = some (z, o1) ∧ o' = mapO (ren0 i j) o1) := by
      intro k z o' hk
      by_cases e1 : k = j
      · subst e1; rw [hoj] at hk; cases hk; exact .inl ⟨rfl, rfl, rfl⟩
      · by_cases e2 : k = i
        · subst e2; rw [hoi] at hk; cases hk; exact .inr (.inl ⟨rfl, rfl, rfl⟩)
        · rw [hoth e2 e1] at hk
          cases hk1 : os[k]? with
          | none => rw [hk1] at hk; cases hk
          | some p => rw [hk1] at hk; cases hk; exact .inr (.inr ⟨e2, e1, _, rfl, rfl⟩)
    have hdd : ∀ o1 : LObj, mapO (ren0 i j) o1 ≠ .dead ↔ o1 ≠ .dead := by intro o1; cases o1 <;> simp [mapO]
    have hav : ∀ b, avoid A0 os' b → avoid A0 os b := by
      rintro b (hb | ⟨k, z, o', hk, hd, hbb⟩)
      · exact .inl hb
      · rcases hget hk with ⟨rfl, rfl, rfl⟩ | ⟨rfl, rfl, rfl⟩ | ⟨_, _, o1, hk1, rfl⟩
        · exact .inr ⟨i, _, _, hi, by simp, hbb⟩
        · exact absurd rfl hd
        · exact .inr ⟨k, _, _, hk1, (hdd _).1 hd, hbb⟩
    have kp : Keeps (avoid A0 os) (avoid A0 os') w w := Keeps.less hav
    have bf : ∀ {p q : Nat}, p ≠ q → Nat.beq p q = false := by
      intro p q hne
      cases hb : Nat.beq p q
      · rfl
      · exact absurd (Nat.eq_of_beq_eq_true hb) hne
    have hmap : ∀ {z : Value} {d : DV}, RepV (avoid A0 os) os w z d → (z.oneCell' = true → RepV (avoid A0 os') os' w z (ren0 i j d)) ∧ RepV (avoid A0 os') os' w z (renT i j d) := by
      intro z d hz
      induction hz with
      | imm h => exact ⟨fun _ => .imm ((h.keep kp).ren i j).1, .imm ((h.keep kp).ren i j).2⟩
      | @lp k off g t cs hk =>
        have hne1 : k ≠ i := fun e => by subst e; rw [hi] at hk; cases hk
        have hne2 : k ≠ j := fun e => by subst e; rw [hj] at hk; cases hk
        have : os'[k]? = some (.pointer (some ⟨g, 0, none⟩), .cells t (cs.map (ren0 i j))) := by rw [hoth hne1 hne2, hk]; rfl
        exact ⟨fun _ => .lp this, .lp this⟩
      | @ap k off g t cs hk =>
        have hne1 : k ≠ i := fun e => by subst e; rw [hi] at hk; cases hk
        have hne2 : k ≠ j := fun e => by subst e; rw [hj] at hk; cases hk
        have : os'[k]? = some (.pointer (some ⟨g, 0, none⟩), .cells t (cs.map (ren0 i j))) := by rw [hoth hne1 hne2, hk]; rfl
        exact ⟨fun _ => .ap this, .ap this⟩
      | @rp k kk off g m c e2 sz2 es2 hk =>
        have hne2 : k ≠ j := fun e => by subst e; rw [hj] at hk; cases hk
        have key : RepV (avoid A0 os') os' w (.pointer (some ⟨g, kk * sz2 + off, none⟩)) (ren0 i j (.rp k kk off)) := by
          by_cases hne1 : k = i
          · subst hne1
            rw [hi] at hk
            cases hk
            simp only [ren0, Nat.beq_refl]
            exact .rp hoj
          · simp only [ren0, bf hne1, bf hne2]
            exact .rp (e := e2) (sz := sz2) (es := es2) (n := m) (c := c) (by rw [hoth hne1 hne2, hk]; rfl)
        exact ⟨fun _ => key, key⟩
      | @own k z e2 sz2 es2 hk h1 =>
        have hne2 : k ≠ j := fun e => by subst e; rw [hj] at hk; cases hk
        have key : RepV (avoid A0 os') os' w z (ren0 i j (.own k)) := by
          by_cases hne1 : k = i
          · subst hne1
            rw [hi] at hk
            cases hk
            simp only [ren0, Nat.beq_refl]
            exact .own hoj h1
          · simp only [ren0, bf hne1, bf hne2]
            exact .own (e := e2) (sz := sz2) (es := es2) (by rw [hoth hne1 hne2, hk]; rfl) h1
        exact ⟨fun _ => key, key⟩
      | @stale k z y2 d hk hd h1 =>
        have hne1 : k ≠ i := fun e => by subst e; rw [hi] at hk; cases hk
        by_cases hne2 : k = j
        · rcases hd with rfl | ⟨_, _, rfl⟩
          · have e1 : ren0 i j (.own k) = .junk := by simp only [ren0, bf hne1, hne2, Nat.beq_refl, bf (fun e => hij (Eq.symm e))]
            have e2 : renT i j (.own k) = .junk := e1
            rw [e1, e2]; exact ⟨fun _ => .imm .junk, .imm .junk⟩
          · rename_i kk off
            have e1 : ren0 i j (.rp k kk off) = .junk := by simp only [ren0, bf hne1, hne2, Nat.beq_refl, bf (fun e => hij (Eq.symm e))]
            have e2 : renT i j (.rp k kk off) = .junk := e1
            rw [e1, e2]; exact ⟨fun _ => .imm .junk, .imm .junk⟩
        · have hk' : os'[k]? = some (y2, .gone) := by rw [hoth hne1 hne2, hk]; rfl
          rcases hd with rfl | ⟨kk, off, rfl⟩
          · have e1 : ren0 i j (.own k) = .own k := by simp only [ren0, bf hne1, bf hne2]
            have e2 : renT i j (.own k) = .own k := e1
            rw [e1, e2]; exact ⟨fun _ => .stale hk' (.inl rfl) h1, .stale hk' (.inl rfl) h1⟩
          · have e1 : ren0 i j (.rp k kk off) = .rp k kk off := by simp only [ren0, bf hne1, bf hne2]
            have e2 : renT i j (.rp k kk off) = .rp k kk off := e1
            rw [e1, e2]; exact ⟨fun _ => .stale hk' (.inr ⟨_, _, rfl⟩) h1, .stale hk' (.inr ⟨_, _, rfl⟩) h1⟩
      | @agg vs ds hl hone _ ih =>
        refine ⟨fun h => by simp [Value.oneCell'] at h, .agg (by simpa using hl) hone (fun k v d hv hd => ?_)⟩
        rw [List.getElem?_map] at hd
        cases hk : ds[k]? with
        | none => rw [hk] at hd; cases hd
        | some e => rw [hk] at hd; simp at hd; subst hd; exact (ih k v e hv hk).1 (hone v (List.mem_of_getElem? hv))
      | @tup vs ds hl hown hh ih =>
        exact ⟨fun h1 => by simp [Value.oneCell'] at h1, .imm (((RepV.tup hl hown hh).tupJ).keep kp)⟩
      | @fn f vs ds hl hcap _ ih =>
        have key : RepV (avoid A0 os') os' w (.func f #[] vs.toArray) (.fn f ds) := .fn hl hcap (fun k v d hv hd => by
          have hc := hcap d (List.mem_of_getElem? hd)
          have h2 := (ih k v d hv hd).2
          cases d <;> simp [isCap, plainCap] at hc <;> exact h2)
        exact ⟨fun _ => key, key⟩
      | wh _ h0 ih => exact ⟨fun h1 => .wh (fun hb => (ih hb).1 h1) h0, .wh (fun hb => (ih hb).2) h0⟩
    refine ⟨os', h.size, h.defers, h.gr, h.a0, ?_, fun t => ?_, fun k z o' hk => ?_, fun k1 k2 z o1 z2 o2 b h1 h2 d1 d2 b1 b2 => ?_⟩
    · rw [← hos, lset_eq, lset_eq, mapL_eq, h.loc, List.map_set, List.map_set, List.map_map, List.map_map]
      rfl
    · show RepV _ _ _ _ (look (mapE (renT i j) s.env) t)
      rw [look_mapE _ (by rfl)]
      exact (hmap (h.env t)).2
    · rcases hget hk with ⟨rfl, rfl, rfl⟩ | ⟨rfl, rfl, rfl⟩ | ⟨n1, n2, o1, hk1, rfl⟩
      · have := h.obj _ _ _ hi
        obtain ⟨hmine, xs, hown, hsz, hrl, hone, hr⟩ := this
        exact ⟨hmine, xs, hown, hsz, hrl, hone, fun k' j' r d h1 h2 => by
          obtain ⟨v, hv, hi⟩ := hr k' j' r d h1 h2
          exact ⟨v, hv, hi.keep kp⟩⟩
      · exact trivial
      · have ho1 := h.obj _ _ _ hk1
        cases o1 with
        | dead => exact trivial
        | gone => exact ho1
        | gh ds =>
          obtain ⟨e1, e2, e3, e4⟩ := ho1
          refine ⟨e1, by simpa using e2, e3, fun i' v d hv hd => ?_⟩
          rw [List.getElem?_map] at hd
          cases hj : ds[i']? with
          | none => rw [hj] at hd; cases hd
          | some d' =>
            rw [hj] at hd
            simp at hd
            subst hd
            exact (hmap (e4 i' v d' hv hj)).1 (e3 v (List.mem_of_getElem? hv))
        | cells t cs =>
          obtain ⟨g, arr, rfl, hB, hh, hs, hone, hrr⟩ := ho1
          refine ⟨g, arr, rfl, hB, hh, by simpa using hs, hone, fun j' v d hv hd => ?_⟩
          rw [List.getElem?_map] at hd
          cases hj : cs[j']? with
          | none => rw [hj] at hd; cases hd
          | some d' =>
            rw [hj] at hd
            simp at hd
            subst hd
            refine (hmap (hrr j' v d' hv hj)).1 (hone v ?_)
            rw [← Array.getElem?_toList] at hv
            exact List.mem_of_getElem? hv
        | row e2 sz2 es2 =>
          obtain ⟨hmine, xs, hown, hsz, hrl, hone, hr⟩ := ho1
          exact ⟨hmine, xs, hown, hsz, hrl, hone, fun k' j' r d h1 h2 => by
            obtain ⟨v, hv, hi⟩ := hr k' j' r d h1 h2
            exact ⟨v, hv, hi.keep kp⟩⟩
    · have one : ∀ {k z o'}, os'[k]? = some (z, o') → o' ≠ .dead → ∃ k0 o0, os[k0]? = some (z, o0) ∧ o0 ≠ .dead ∧ k0 ≠ j ∧ ((k = j ∧ k0 = i) ∨ (k ≠ j ∧ k0 ≠ i ∧ k0 = k)) := by
        intro k z o' hk hd
        rcases hget hk with ⟨rfl, rfl, rfl⟩ | ⟨rfl, rfl, rfl⟩ | ⟨n1, n2, o1, hk1, rfl⟩
        · exact ⟨i, _, hi, by simp, hij, .inl ⟨rfl, rfl⟩⟩
        · exact absurd rfl hd
        · exact ⟨k, _, hk1, (hdd _).1 hd, n2, .inr ⟨n2, n1, rfl⟩⟩
      obtain ⟨p1, q1, r1, s1, _, t1⟩ := one h1 d1
      obtain ⟨p2, q2, r2, s2, _, t2⟩ := one h2 d2
      have := h.inj p1 p2 _ _ _ _ b r1 r2 s1 s2 b1 b2
      omega
  · exact ⟨os, h⟩
theorem normR_ok : ∀ (l : List (Nat × Nat)) {os : Objs} {s : DS}, Rep A0 w0 n os s a w → ∃ os', Rep A0 w0 n os' (normR l s) a w
  | [], os, s, h => ⟨os, h⟩
  | p :: r, os, s, h => by
    obtain ⟨os1, h1⟩ := norm1_ok (p := p) h
    exact normR_ok r h1
theorem shutCuts_ok {all : List Oper} : ∀ (l : List Oper) {os : Objs} {s : DS} {K : DS → Prop}, Rep A0 w0 n os s a w → shutCuts all l s K → ∃ os' s', Rep A0 w0 n os' s' a w ∧ K s'
  | [], os, s, K, h, hK => ⟨os, s, h, hK⟩
  | o :: r, os, s, K, h, hK => by
    unfold shutCuts at hK
    split at hK
    · split at hK
      · obtain ⟨os', s', h', hK, _, _⟩ := shutIn_ok _ h hK
        exact shutCuts_ok r h' hK
      · exact shutCuts_ok r h hK
    · exact shutCuts_ok r h hK
theorem drawK_ok (hm : P.follows .mixedOrders = true) (hT : tabOk P tt = true) (h0 : (tinfo tt 0).size = 0) {id : Nat} {K : DS → Prop} (hE : ∀ a w, Nx A0 w0 n K a w → E .normal a w) (hl : ops.toList.all (dstOk n) = true) (h : Rep A0 w0 n os s a w) (hK : drawK tt P ops K s) :
    (Code.region id ops true).wp P E a w := by
  unfold drawK at hK
  obtain ⟨os, s, h, hK⟩ := shutCuts_ok _ h hK
  unfold drawK0 at hK
  have hK := forceL_iff.1 hK
  obtain ⟨tes, mvs, hlen, ⟨hreg, hK0⟩, hruns⟩ := drops_ok (A0 := A0) (w0 := w0) (E := E) hT h0 ops.toList hl hK
  have hK : K (normR mvs (stN tes ⟨s.env, s.loc ++ List.replicate (creators ops.toList) .dead⟩ allT ops.toList.length)) := by
    split at hK0
    · exact hK0
    · exact hK0
  rw [List.nil_append] at hreg
  have hlen : tes.length = ops.size := by simpa using hlen
  have hK : K (normR mvs (stN tes ⟨s.env, s.loc ++ List.replicate (creators ops.toList) .dead⟩ allT ops.size)) := by simpa using hK
  have hE : ∀ a w, Nx A0 w0 n (fun s' => K (normR mvs s')) a w → E .normal a w := fun a w ⟨os, s, h, hK⟩ => by
    obtain ⟨os', h'⟩ := normR_ok mvs h
    exact hE a w ⟨os', _, h', hK⟩
  refine wp_region_any hm ?_
  have hg : w.grownBy { w with drawn := w.drawn + 1 } none := ⟨rfl, rfl, rfl, Nat.le_refl _, fun _ _ _ => rfl⟩
  obtain ⟨os', h'⟩ := push_dead (h.grown hg) (creators ops.toList)
  have hdn : edgesDown ops.toList 0 = true := by simp only [regOk, Bool.and_eq_true] at hreg; exact hreg.1
  have hS : Sof (Array.replicate ops.size false) = fun _ => false := by
    funext j
    simp only [Sof, Array.getD_eq_getD_getElem?, Array.getElem?_replicate]
    split <;> rfl
  refine any_ok (ordered_of hlen hreg) hlen hdn (fun i o te ho hte => hruns i o te (by simpa using ho) hte) hK hE _ _ _ _ (by simp) (fun i o hi _ => by rw [hS] at hi; cases hi) (by simp) ?_
  rw [hS]
  have h00 : stN tes (⟨s.env, s.loc ++ List.replicate (creators ops.toList) .dead⟩ : DS) (fun _ => false) ops.size = ⟨s.env, s.loc ++ List.replicate (creators ops.toList) .dead⟩ := stN_below (m := 0) ops.size (Nat.zero_le _) (fun _ _ _ => rfl)
  exact ⟨os', _, h', fun t => by rw [h00], fun k => by rw [h00], rfl⟩
end
end Go.Lift

namespace Go.Lift
open Go

section
variable {P : Program} {tt : TT} {A0 : Nat → Prop} {w0 : Home} {n : Nat} {os : Objs} {s : DS} {a : Act} {w : World} {A : Nat → Prop}

def codeFits (n : Nat) : Code → Bool
  | .region _ ops _ => ops.toList.all (dstOk n)
  | .seq a b => codeFits n a && codeFits n b
  | .cond _ a b => codeFits n a && codeFits n b
  | .block _ c => codeFits n c
  | .loop c => codeFits n c
  | .scope c => codeFits n c
  | _ => true
def NxE (A0 : Nat → Prop) (w0 : Home) (n : Nat) (K : Exit → DS → Prop) (e : Exit) (a : Act) (w : World) : Prop := Nx A0 w0 n (K e) a w

theorem dcode_ok (hm : P.follows .mixedOrders = true) (hT : tabOk P tt = true) (h0 : (tinfo tt 0).size = 0) : ∀ (c : Code) {K : Exit → DS → Prop} {E : Exit → Act → World → Prop} {os : Objs} {s : DS} {a : Act} {w : World},
    codeFits n c = true → (∀ e a w, NxE A0 w0 n K e a w → E e a w) → Rep A0 w0 n os s a w → dcode tt P c K s → c.wp P E a w := by
  intro c
  induction c with
  | skip => exact fun _ hE h hK => wp_skip (hE _ _ _ ⟨_, _, h, hK⟩)
  | region id ops draw =>
    intro K E os s a w hf hE h hK
    cases draw with
    | false => exact wp_region_list (dops_ok hT h0 (K := fun s => K .normal s) (fun a w hN => hE _ _ _ hN) _ hf h hK)
    | true => exact drawK_ok hm hT h0 (K := fun s => K .normal s) (fun a w hN => hE _ _ _ hN) hf h hK
  | seq x y ihx ihy =>
    intro K E os s a w hf hE h hK
    simp only [codeFits, Bool.and_eq_true] at hf
    refine wp_seq (ihx hf.1 (fun e a w hN => ?_) h hK)
    obtain ⟨os, s, h, hK⟩ := hN
    cases e with
    | normal => exact ihy hf.2 hE h hK
    | _ => exact hE _ _ _ ⟨os, s, h, hK⟩
  | cond c x y ihx ihy =>
    intro K E os s a w hf hE h hK
    simp only [codeFits, Bool.and_eq_true] at hf
    have hc := h.ev c
    have hK : (match ev s c with
      | .v (.bool t) => dcond t (dcode tt P x K s) (dcode tt P y K s)
      | _ => False) := hK
    split at hK
    · rename_i t e
      rw [e] at hc
      refine wp_cond_split hc.v_inv.1 (fun ht => ?_) (fun ht => ?_)
      · subst ht; exact ihx hf.1 hE h hK
      · subst ht; exact ihy hf.2 hE h hK
    · exact hK.elim
  | block id c ih =>
    intro K E os s a w hf hE h hK
    refine wp_block (ih hf (fun e a w hN => ?_) h hK)
    obtain ⟨os, s, h, hK⟩ := hN
    cases e with
    | exit j =>
      simp only [Exit.inBlock]
      have hK : (match Nat.beq j id with
        | true => K .normal s
        | false => K (.exit j) s) := hK
      split at hK
      · rename_i hb
        rw [if_pos (Nat.eq_of_beq_eq_true hb)]
        exact hE _ _ _ ⟨os, s, h, hK⟩
      · rename_i hb
        rw [if_neg (fun e => by subst e; simp at hb)]
        exact hE _ _ _ ⟨os, s, h, hK⟩
    | _ => exact hE _ _ _ ⟨os, s, h, hK⟩
  | loop c ih =>
    intro K E os s a w hf hE h hK
    obtain ⟨S, enc, I, μ, ads, ⟨x0, hI0, had⟩, hround⟩ := hK
    obtain ⟨os1, s1, h1, hle⟩ := adopt_ok ads h had
    obtain ⟨os2, h2⟩ := h1.le hle
    refine wp_loop_ghost (fun m a w => ∃ x, I x ∧ μ x = m ∧ ∃ os, Rep A0 w0 n os (enc x) a w) (μ x0) ⟨x0, hI0, rfl, os2, h2⟩ ?_
    rintro m a w ⟨x, hx, rfl, os, h⟩
    refine ih hf (fun e a w hN => ?_) h (hround x hx)
    obtain ⟨os, s, h, hK⟩ := hN
    cases e with
    | normal =>
      obtain ⟨x', hx', hlt, hle⟩ := hK
      obtain ⟨os3, s3, h3, hle⟩ := end_ok ads h hle
      obtain ⟨os', h'⟩ := h3.le hle
      exact ⟨μ x', hlt, x', hx', rfl, os', h'⟩
    | _ => exact hE _ _ _ ⟨os, s, h, hK⟩
  | exit id => exact fun _ hE h hK => wp_exit (hE _ _ _ ⟨_, _, h, hK⟩)
  | ret => exact fun _ hE h hK => wp_ret (hE _ _ _ ⟨_, _, h, hK⟩)
  | label l => exact fun _ hE h hK => wp_label (hE _ _ _ ⟨_, _, h, hK⟩)
  | scope c ih =>
    intro K E os s a w hf hE h hK
    refine wp_scope_straight (ih hf (fun e a w hN => ?_) h hK)
    obtain ⟨os, s, h, hK⟩ := hN
    cases e with
    | goto l => exact hK.elim
    | _ => exact hE _ _ _ ⟨os, s, h, hK⟩
  | _ => intro K E os s a w hf hE h hK; exact hK.elim

theorem lend_imm {x : Value} {d : DV} {Q : DV → Prop} (h : Rep A0 w0 n os s a w) (hr : RepV (avoid A0 os) os w x d) (hK : lend s.loc d Q) : ∃ d', Q d' ∧ Imm A0 w x d' := by
  have hown : ∀ (e : DV) j, e ∈ owns [d] → hIx e = some j → j ∈ ownIx (owns [d]) := fun e j hd hj => own_ix hd hj
  obtain ⟨d', hQ, hi⟩ := lend_ok h hr hown hK
  exact ⟨d', hQ, hi.keep (Keeps.less (fun b hb => .inl hb))⟩
theorem resK_ok (hT : tabOk P tt = true) (h : Rep A0 w0 n os s a w) : ∀ {rs : List ResultVar} {Q : List DV → Prop}, resK tt s rs Q → ∃ vs ds, Q ds ∧ vs.length = rs.length ∧ vs.length = ds.length ∧ (∀ (i : Nat) v d, vs[i]? = some v → ds[i]? = some d → Imm A0 w v d) ∧
    (List.mapM (m := Sem) (fun r : ResultVar => match r with
      | .tmp t => pure (a.tmps.getD t undef)
      | .cell p t => do loadVar t (← asAddr (a.tmps.getD p undef))) rs).run P w = .ok vs w
  | [], Q, hK => ⟨[], [], hK, rfl, rfl, fun i v d hv _ => by simp at hv, by simp⟩
  | .tmp t :: r, Q, hK => by
    have hK := frc_iff.1 hK
    obtain ⟨d, hK, hi⟩ := lend_imm h (h.env t) hK
    obtain ⟨vs, ds, hQ, h1, h2, h3, h4⟩ := resK_ok hT h hK
    refine ⟨a.tmps.getD t undef :: vs, d :: ds, hQ, by simp [h1], by simp [h2], fun i v d' hv hd => ?_, ?_⟩
    · cases i with
      | zero =>
        simp only [List.getElem?_cons_zero, Option.some.injEq] at hv hd
        subst hv hd; exact hi
      | succ i => exact h3 i v d' (by simpa using hv) (by simpa using hd)
    · rw [List.mapM_cons]
      simp only [Sem.run_bind, Sem.run_pure, Result.andThen_ok, h4]
  | .cell p ty :: r, Q, hK => by
    unfold resK at hK
    have hp := h.env p
    split at hK
    · rename_i i off e
      rw [e] at hp
      obtain ⟨g, t', cs', hi, hv⟩ := hp.lp_inv
      split at hK
      · rename_i t2 cs hl
        rw [h.loc] at hl
        obtain ⟨x', hi'⟩ := lget_os hl (by simp)
        rw [hi] at hi'
        cases hi'
        split at hK
        · exact hK.elim
        · rename_i hs
          obtain ⟨_, _, _, _, _, _, hcell⟩ := obj_cells h.obj hi
          obtain ⟨_, hK⟩ := dropK_elim hK
          obtain ⟨d, y, hK, hy1, hy2⟩ := load_take (P := P) hT hs (ad := ⟨g, off, none⟩) (fun j d hd => by rw [List.getElem?_drop] at hd; rw [Addr.add_mk]; exact hcell _ d hd) hK
          obtain ⟨d, hK, him⟩ := lend_imm h hy2 hK
          obtain ⟨vs, ds, hQ, h1, h2, h3, h4⟩ := resK_ok hT h hK
          refine ⟨y :: vs, d :: ds, hQ, by simp [h1], by simp [h2], fun i v d' hv hd => ?_, ?_⟩
          · cases i with
            | zero =>
        simp only [List.getElem?_cons_zero, Option.some.injEq] at hv hd
        subst hv hd; exact him
            | succ i => exact h3 i v d' (by simpa using hv) (by simpa using hd)
          · rw [List.mapM_cons]
            have e1 : (asAddr (a.tmps.getD p undef)).run P w = .ok ⟨g, off, none⟩ w := by rw [hv]; rfl
            simp only [Sem.run_bind, Sem.run_pure, Result.andThen_ok, e1, hy1, h4]
      · exact hK.elim
    · exact hK.elim
theorem dpost_ok (hT : tabOk P tt = true) {fn : Func} {d : DV} (h : Rep A0 w0 n os s a w) (hK : dpost tt fn.results.toList d s) : ∃ v, (results fn a.tmps).run P w = .ok v w ∧ Imm A0 w v d := by
  obtain ⟨vs, ds, hQ, h1, h2, h3, h4⟩ := resK_ok hT h hK
  have hrun : (results fn a.tmps).run P w = .ok (if h : vs.toArray.size = 1 then vs.toArray[0] else .tuple vs.toArray) w := by
    unfold results
    rw [Array.mapM_eq_mapM_toList]
    simp only [Sem.run_bind, Sem.run_map, Result.andThen_ok, Sem.run_pure]
    exact congrArg (fun r : Result (List Value) => (r.andThen fun a w' => Result.ok a.toArray w').andThen fun a w' => Result.ok (if h : a.size = 1 then a[0] else .tuple a) w') h4
  refine ⟨_, hrun, ?_⟩
  have hQ : (match ds with
    | [x] => dle x d
    | l => dle (.tup l) d) := hQ
  have many : ¬ vs.length = 1 → dle (.tup ds) d → Imm A0 w (if h : vs.toArray.size = 1 then vs.toArray[0] else .tuple vs.toArray) d := by
    intro hne hQ
    simp only [List.size_toArray, hne, dite_false]
    exact (Imm.tup h2 h3).le hQ
  rcases ds with _ | ⟨x, _ | ⟨y, r⟩⟩
  · exact many (by simp at h2; simp [h2]) hQ
  · obtain ⟨v, rfl⟩ : ∃ v, vs = [v] := List.length_eq_one_iff.1 (by simpa using h2)
    simpa using (h3 0 v x rfl rfl).le hQ
  · exact many (by simp at h2; omega) hQ

theorem look_enum : ∀ (l : List DV) (b t : Nat), look (enum b l) t = if b ≤ t then (l[t - b]?).getD .junk else .junk
  | [], b, t => by simp [enum, look]
  | d :: r, b, t => by
    simp only [enum, look]
    split
    · rename_i hb
      have := Nat.eq_of_beq_eq_true hb
      subst this
      simp
    · rename_i hb
      have hne : b ≠ t := fun e => by subst e; simp at hb
      rw [look_enum r (b + 1) t]
      by_cases hle : b ≤ t
      · rw [if_pos hle, if_pos (by omega)]
        obtain ⟨m, rfl⟩ : ∃ m, t = b + 1 + m := ⟨t - b - 1, by omega⟩
        rw [show b + 1 + m - b = m + 1 by omega, show b + 1 + m - (b + 1) = m by omega]
        simp
      · rw [if_neg hle, if_neg (by omega)]
theorem immAll_len : ∀ {vs : List Value} {ds : List DV}, ImmAll A w vs ds → vs.length = ds.length
  | [], [], _ => rfl
  | [], _ :: _, h => h.elim
  | _ :: _, [], h => h.elim
  | _ :: _, _ :: _, h => by simp [immAll_len h.2]
theorem immAll_at : ∀ {vs : List Value} {ds : List DV} {i : Nat} {v : Value} {d : DV}, ImmAll A w vs ds → vs[i]? = some v → ds[i]? = some d → Imm A w v d
  | [], _, i, v, d, _, hv, _ => by simp at hv
  | _ :: _, [], i, v, d, h, _, hd => by simp at hd
  | x :: vs, y :: ds, 0, v, d, h, hv, hd => by simp at hv hd; subst hv; subst hd; exact h.1
  | x :: vs, y :: ds, i + 1, v, d, h, hv, hd => immAll_at (i := i) h.2 (by simpa using hv) (by simpa using hd)
theorem grownBy_of {w w' : World} (h : Grown (fun _ => False) w w') : w.grownBy w' none := ⟨h.os, h.tape, h.output, h.size, fun k hk _ => h.block k hk (fun h => h)⟩
theorem ret_of_body (hm : P.follows .mixedOrders = true) (hT : tabOk P tt = true) (h0 : (tinfo tt 0).size = 0) {f : FuncId} {fn : Func} {c : Code} {args : List DV} {d : DV} (hf : P.funcs[f]? = some fn) (hname : (fn.name == "runtime.NumGoroutine") = false) (hb : fn.body = some c)
    (hfit : codeFits fn.ntmps c = true) (hn : Nat.ble args.length fn.ntmps = true) (h : dbody tt P c fn.results.toList args d) : Ret P f args d := by
  have hn := Nat.le_of_ble_eq_true hn
  refine ⟨fun vs w => ?_, fun A w vals hA hvals => ?_⟩
  · simp only [callFunc, Sem.run_bind, run_program, Result.andThen_ok, hf, hname, hb, Option.isNone_some]
    rfl
  · have hlen := immAll_len hvals
    refine calls_of_wp hf hb (dcode_ok (A0 := A) (w0 := ⟨w, fun _ => False, []⟩) (n := fn.ntmps) (os := []) (s := ⟨enum 0 args, []⟩) hm hT h0 c hfit (fun e a w' hN => ?_) ?_ h)
    · obtain ⟨os, s, hr, hK⟩ := hN
      cases e with
      | normal =>
        obtain ⟨v, hv, hi⟩ := dpost_ok hT hr hK
        exact ⟨hr.defers, v, hv, v, rfl, hi, grownBy_of hr.gr⟩
      | ret =>
        obtain ⟨v, hv, hi⟩ := dpost_ok hT hr hK
        exact ⟨hr.defers, v, hv, v, rfl, hi, grownBy_of hr.gr⟩
      | _ => exact hK.elim
    · refine ⟨by simp; omega, rfl, ⟨rfl, rfl, rfl, Nat.le_refl _, fun _ _ _ => rfl⟩, fun b hb hm => hm.elim (fun h => by have := hA b hb; have h : w.heap.size ≤ b := h; omega) (fun h => h), rfl, fun t => ?_, fun i x o hi => by simp at hi, fun i j x o y o' b hi => by simp at hi⟩
      rw [look_enum, if_pos (Nat.zero_le _), Nat.sub_zero]
      cases hd : args[t]? with
      | none => exact .imm .junk
      | some d =>
        have hlt := (List.getElem?_eq_some_iff.1 hd).1
        have hv := List.getElem?_eq_getElem (l := vals) (i := t) (by omega)
        have hi := immAll_at hvals hv hd
        have : (vals.toArray ++ Array.replicate (fn.ntmps - vals.toArray.size) undef).getD t undef = vals[t]'(by omega) := by
          rw [Array.getD_eq_getD_getElem?, Array.getElem?_append_left (by simp; omega)]
          simp [hv]
        simp only [Option.getD_some]
        rw [this]
        refine .imm (hi.keep (Keeps.less (fun b hb => ?_)))
        rcases hb with hb | ⟨i, x, o, hi, _⟩
        · exact hb
        · simp at hi
end
end Go.Lift

namespace Go.Lift
open Go

section
variable {P : Program} {tt : TT} {W : World} {H : Type} {enc : TypeId × Value → H}

def DatFs (g : TypeId → List DV → Prop) : List (TypeId × Nat) → List DV → Prop
  | [], ds => ds = []
  | f :: r, ds => ∃ a b, ds = a ++ b ∧ g f.1 a ∧ DatFs g r b
def Dat (tt : TT) : Nat → TypeId → List DV → Prop
  | 0, _, _ => False
  | n + 1, t, ds => match (tinfo tt t).k with
    | .int k => ∃ i, ds = [.v (.int k i)] ∧ (Lit.int k i).wf = true
    | .bool => ∃ b, ds = [.v (.bool b)]
    | .str => ∃ s : ByteArray, ds = [.v (.string s)] ∧ s.size ≤ maxLen
    | .slc e => ∃ es, ds = [.lst (tinfo tt e).size es false] ∧ es.length ≤ maxLen ∧ ∀ r ∈ es, Dat tt n e r
    | .st fs => DatFs (Dat tt n) fs ds
    | _ => False
def shutFs (tt : TT) (g : TypeId → Bool) : List (TypeId × Nat) → Nat → Nat → Bool
  | [], off, total => Nat.beq off total
  | f :: r, off, total => Nat.beq f.2 off && g f.1 && Nat.blt 0 (tinfo tt f.1).size && shutFs tt g r (off + (tinfo tt f.1).size) total
def shutT (tt : TT) : Nat → TypeId → Bool
  | 0, _ => false
  | n + 1, t => match (tinfo tt t).k with
    | .int _ | .bool | .str => Nat.beq (tinfo tt t).size 1
    | .slc e => Nat.beq (tinfo tt t).size 1 && Nat.blt 0 (tinfo tt e).size && shutT tt n e
    | .st fs => Nat.blt 0 (tinfo tt t).size && shutFs tt (shutT tt n) fs 0 (tinfo tt t).size
    | _ => false

abbrev Nowhere : Nat → Prop := fun _ => False
theorem cellsOf_tab (hT : tabOk P tt = true) {t : TypeId} (hs : (tinfo tt t).size ≠ 0) : P.cellsOf t = (tinfo tt t).size := by
  obtain ⟨i, hi, h1, _⟩ := tab_size hT hs
  simp [Program.cellsOf, hi, h1]
structure Cells (W : World) (cs : List Value) (ds : List DV) : Prop where
  len : cs.length = ds.length
  one : ∀ v ∈ cs, v.oneCell' = true
  imm : ∀ (i : Nat) v d, cs[i]? = some v → ds[i]? = some d → Imm Nowhere W v d
theorem Cells.one1 {v : Value} {d : DV} (h1 : v.oneCell' = true) (h : Imm Nowhere W v d) : Cells W [v] [d] :=
  ⟨rfl, fun u hu => by simp at hu; subst hu; exact h1, fun i u e hu he => by
    cases i with
    | zero => simp at hu he; subst hu; subst he; exact h
    | succ i => simp at hu⟩
theorem Cells.append {cs cs' : List Value} {ds ds' : List DV} (h : Cells W cs ds) (h' : Cells W cs' ds') : Cells W (cs ++ cs') (ds ++ ds') :=
  ⟨by simp [h.len, h'.len], fun v hv => by rcases List.mem_append.1 hv with hv | hv; exact h.one v hv; exact h'.one v hv, fun i v d hv hd => by
    by_cases hi : i < cs.length
    · rw [List.getElem?_append_left hi] at hv
      rw [List.getElem?_append_left (by rw [← h.len]; exact hi)] at hd
      exact h.imm i v d hv hd
    · rw [List.getElem?_append_right (by omega)] at hv
      rw [List.getElem?_append_right (by rw [← h.len]; omega), ← h.len] at hd
      exact h'.imm _ v d hv hd⟩
theorem cell_lt {a : Addr} {v : Value} (h : W.cell? a = some v) : a.block < W.heap.size := by
  unfold World.cell? at h
  split at h
  · rename_i hh; exact (Array.getElem?_eq_some_iff.1 hh).1
  · cases h
theorem cells_get {base : Nat} {a : Addr} {n : Nat} {cs : List Value} (h : W.cells? base a n = some cs) : cs.length = n ∧ ∀ (j : Nat) v, cs[j]? = some v → W.cell? (a.add j) = some v := by
  unfold World.cells? at h
  split at h
  · have hl := mapM_some_length h
    rw [List.length_range] at hl
    refine ⟨hl, fun j v hv => ?_⟩
    have hj := (List.getElem?_eq_some_iff.1 hv).1
    have := mapM_some_get h j j (by rw [List.getElem?_range (by omega)])
    rw [this, hv]
  · cases h

theorem fields_ok {g : TypeId → List DV → Prop} {gs : TypeId → Bool} {cs : List Value} {total : Nat} (hlen : cs.length = total) :
    ∀ (fs : List (TypeId × Nat)) (off : Nat), (∀ f ∈ fs, gs f.1 = true → ∃ ds, g f.1 ds ∧ ds.length = (tinfo tt f.1).size ∧ Cells W ((cs.drop f.2).take (tinfo tt f.1).size) ds) → shutFs tt gs fs off total = true → off ≤ total →
      ∃ ds, DatFs g fs ds ∧ ds.length = total - off ∧ Cells W (cs.drop off) ds
  | [], off, _, h, hoff => by
    have := Nat.eq_of_beq_eq_true h
    subst this
    refine ⟨[], rfl, (Nat.sub_self _).symm, ?_⟩
    rw [List.drop_of_length_le (by omega)]
    exact ⟨rfl, by simp, by simp⟩
  | f :: r, off, hf, h, hoff => by
    simp only [shutFs, Bool.and_eq_true] at h
    obtain ⟨⟨⟨h1, h2⟩, h3⟩, h4⟩ := h
    have h1 := Nat.eq_of_beq_eq_true h1
    obtain ⟨ds, hd, hdl, hc⟩ := hf f (by simp) h2
    have hle : off + (tinfo tt f.1).size ≤ total := by
      have := hc.len
      rw [hdl, List.length_take, List.length_drop, h1, hlen] at this
      omega
    obtain ⟨ds', hd', hdl', hc'⟩ := fields_ok hlen r (off + (tinfo tt f.1).size) (fun f' hf' => hf f' (by simp [hf'])) h4 hle
    refine ⟨ds ++ ds', ⟨ds, ds', rfl, hd, hd'⟩, by rw [List.length_append, hdl, hdl']; omega, ?_⟩
    have : cs.drop off = (cs.drop off).take (tinfo tt f.1).size ++ cs.drop (off + (tinfo tt f.1).size) := by
      rw [← List.drop_drop, List.take_append_drop]
    rw [this]
    rw [h1] at hc
    exact hc.append hc'

theorem read_ok (hT : tabOk P tt = true) {sp : Nat → Bool} {base : Nat} {held : Bool} : ∀ (n : Nat) (t : TypeId) (m : Nat) (cs : List Value) (x : DataW H × List MemPlace), DataW.trod enc P W base sp held m t cs = some x → shutT tt n t = true →
    ∃ ds, Dat tt n t ds ∧ ds.length = (tinfo tt t).size ∧ Cells W cs ds
  | 0, t, m, cs, x, _, hs => by simp [shutT] at hs
  | n + 1, t, m, cs, x, h, hs => by
    unfold shutT at hs
    unfold Dat
    split at hs
    · rename_i k hk
      have hz := Nat.eq_of_beq_eq_true hs
      have hu := tab_int hT hk
      cases m with
      | zero => simp [DataW.trod] at h
      | succ m =>
        have key : ∃ i, cs = [.int k i] ∧ (Lit.int k i).wf = true := by
          unfold DataW.trod at h
          rw [hu] at h
          split at h <;> simp_all
        obtain ⟨i, rfl, hw⟩ := key
        exact ⟨_, ⟨i, rfl, hw⟩, by simp [hz], .one1 rfl (.v rfl)⟩
    · rename_i hk
      have hz := Nat.eq_of_beq_eq_true hs
      have hu := tab_bool hT hk
      cases m with
      | zero => simp [DataW.trod] at h
      | succ m =>
        have key : ∃ b, cs = [.bool b] := by
          unfold DataW.trod at h
          rw [hu] at h
          split at h <;> simp_all
        obtain ⟨b, rfl⟩ := key
        exact ⟨_, ⟨b, rfl⟩, by simp [hz], .one1 rfl (.v rfl)⟩
    · rename_i hk
      have hz := Nat.eq_of_beq_eq_true hs
      have hu := tab_str hT hk
      cases m with
      | zero => simp [DataW.trod] at h
      | succ m =>
        have key : ∃ s : ByteArray, cs = [.string s] ∧ s.size ≤ maxLen := by
          unfold DataW.trod at h
          rw [hu] at h
          split at h <;> simp_all
        obtain ⟨s, rfl, hw⟩ := key
        exact ⟨_, ⟨s, rfl, hw⟩, by simp [hz], .one1 rfl (.v rfl)⟩
    · rename_i e hk
      simp only [Bool.and_eq_true] at hs
      obtain ⟨⟨hz, he⟩, hse⟩ := hs
      have hz := Nat.eq_of_beq_eq_true hz
      have he : 0 < (tinfo tt e).size := Nat.le_of_ble_eq_true he
      have hu := tab_slc hT hk
      have hce := cellsOf_tab hT (t := e) (by omega)
      rcases Go.Deep.open_slice hu h with ⟨rfl, _⟩ | ⟨a, len, cap, mm, n', D, Pl, rfl, hb, hl, hm, hmm, _, hel⟩
      · exact ⟨_, ⟨[], rfl, by simp, by simp⟩, by simp [hz], .one1 rfl .nil⟩
      · have hlm : len ≤ mm := by rw [hmm]; split <;> omega
        rw [hce] at hel
        obtain ⟨es, hesl, hes⟩ := list_of (Q := fun i r => ∃ cs', W.cells? base (a.add (i * (tinfo tt e).size)) (tinfo tt e).size = some cs' ∧ Dat tt n e r ∧ r.length = (tinfo tt e).size ∧ Cells W cs' r) len (fun i hi => by
          obtain ⟨cs', h1, h2⟩ := hel i (by omega)
          obtain ⟨ds, h3, h4, h5⟩ := read_ok hT n e n' cs' _ h2 hse
          exact ⟨ds, cs', h1, h3, h4, h5⟩)
        have hcell : ∀ (i j : Nat) r d, es[i]? = some r → r[j]? = some d → ∃ v, W.cell? (a.add (i * (tinfo tt e).size + j)) = some v ∧ v.oneCell' = true ∧ Imm Nowhere W v d := by
          intro i j r d hi hj
          obtain ⟨cs', h1, h3, h4, h5⟩ := hes i r hi
          have hjl := (List.getElem?_eq_some_iff.1 hj).1
          have hv := List.getElem?_eq_getElem (l := cs') (i := j) (by rw [h5.len]; exact hjl)
          refine ⟨cs'[j]'(by rw [h5.len]; exact hjl), ?_, h5.one _ (List.getElem_mem _), h5.imm j _ d hv hj⟩
          rw [← Addr.add_add]
          exact (cells_get h1).2 j _ hv
        refine ⟨_, ⟨es, rfl, by omega, fun r hr => ?_⟩, by simp [hz], .one1 rfl (.lst (fun i j => match W.cell? (a.add (i * (tinfo tt e).size + j)) with
          | some v => if v.oneCell' then v else .nilFunc
          | none => .nilFunc) hesl hl hm (by simp) (fun r hr => ?_) (fun _ h => h) (fun hne => ?_) (fun i j => ?_) (fun i j r d hi hj => ?_) (fun i j r d hi hj => ?_))⟩
        · obtain ⟨i, hi, rfl⟩ := List.getElem_of_mem hr
          obtain ⟨_, _, h3, _⟩ := hes i _ (List.getElem?_eq_getElem hi)
          exact h3
        · obtain ⟨i, hi, rfl⟩ := List.getElem_of_mem hr
          obtain ⟨_, _, _, h3, _⟩ := hes i _ (List.getElem?_eq_getElem hi)
          exact h3
        · cases hes0 : es with
          | nil => exact absurd hes0 hne
          | cons r rr =>
            have h0 : es[0]? = some r := by rw [hes0]; rfl
            obtain ⟨_, _, _, h3, _⟩ := hes 0 r h0
            obtain ⟨v, hv, _⟩ := hcell 0 0 r _ h0 (List.getElem?_eq_getElem (by omega))
            have := cell_lt hv
            rwa [Addr.block_add] at this
        · split
          · split
            · assumption
            · rfl
          · rfl
        · obtain ⟨v, hv, h1, _⟩ := hcell i j r d hi hj
          simp only [hv, h1, if_true]
        · obtain ⟨v, hv, h1, h2⟩ := hcell i j r d hi hj
          simp only [hv, h1, if_true]
          exact h2
    · rename_i fs hk
      simp only [Bool.and_eq_true] at hs
      have hz : 0 < (tinfo tt t).size := Nat.le_of_ble_eq_true hs.1
      obtain ⟨F, hu, hF, _⟩ := tab_st hT hk
      obtain ⟨xs, m', rfl, rfl, hlen, hxl, hfi⟩ := DataW.trod_struct hu h
      rw [cellsOf_tab hT (by omega)] at hlen
      have key : ∀ (F : List Field) (fs : List (TypeId × Nat)), fsOk F fs = true → ∀ f ∈ fs, ∃ (i : Nat) (f' : Field), F[i]? = some f' ∧ f'.type = f.1 ∧ f'.offset = f.2 := by
        intro F
        induction F with
        | nil =>
          intro fs hF f hf
          cases fs with
          | nil => simp at hf
          | cons _ _ => simp [fsOk] at hF
        | cons f0 F ih =>
          intro fs hF f hf
          cases fs with
          | nil => simp at hf
          | cons g r =>
            simp only [fsOk, Bool.and_eq_true] at hF
            rcases List.mem_cons.1 hf with rfl | hf
            · exact ⟨0, f0, rfl, Nat.eq_of_beq_eq_true hF.1.1.1, Nat.eq_of_beq_eq_true hF.1.1.2⟩
            · obtain ⟨i, f', h1, h2⟩ := ih r hF.2 f hf
              exact ⟨i + 1, f', by simpa using h1, h2⟩
      obtain ⟨ds, h1, h2, h3⟩ := fields_ok (W := W) (g := Dat tt n) (gs := fun t => shutT tt n t && Nat.blt 0 (tinfo tt t).size) hlen fs 0 (fun f hf hg => by
        simp only [Bool.and_eq_true] at hg
        have hfz : 0 < (tinfo tt f.1).size := Nat.le_of_ble_eq_true hg.2
        obtain ⟨i, f', e1, e2, e3⟩ := key _ _ hF f hf
        have := hfi i f' (by simpa using e1)
        rw [e2, e3, cellsOf_tab hT (by omega)] at this
        have hil : i < xs.length := by rw [hxl]; have := (List.getElem?_eq_some_iff.1 e1).1; simpa using this
        rw [List.getElem?_eq_getElem hil] at this
        exact read_ok hT n f.1 m' _ _ this hg.1) (by
          have gen : ∀ (fs : List (TypeId × Nat)) (off : Nat), shutFs tt (shutT tt n) fs off (tinfo tt t).size = true → shutFs tt (fun t => shutT tt n t && Nat.blt 0 (tinfo tt t).size) fs off (tinfo tt t).size = true := by
            intro fs
            induction fs with
            | nil => exact fun _ h => h
            | cons f r ih =>
              intro off h
              simp only [shutFs, Bool.and_eq_true] at h ⊢
              exact ⟨⟨⟨h.1.1.1, h.1.1.2, h.1.2⟩, h.1.2⟩, ih _ h.2⟩
          exact gen fs 0 hs.2) (Nat.zero_le _)
      exact ⟨ds, h1, by omega, by simpa using h3⟩
    · cases hs

def argDV (tt : TT) (t : TypeId) (ds : List DV) : DV :=
  match (tinfo tt t).agg with
  | true => .agg ds
  | false => ds.headD .junk
def DatAll (tt : TT) (n : Nat) : List TypeId → List DV → Prop
  | [], ds => ds = []
  | t :: r, ds => ∃ a b, ds = argDV tt t a :: b ∧ Dat tt n t a ∧ DatAll tt n r b
theorem arg_ok (hT : tabOk P tt = true) {sp : Nat → Bool} {base b2 : Nat} {held : Bool} {n : Nat} {t : TypeId} {v : Value} {d : DataW H} {ps : List MemPlace} (hv : Value.okWide P W .any b2 t v) (h : DataW.Trod enc P W base sp held t v d ps) (hs : shutT tt n t = true) :
    ∃ ds, Dat tt n t ds ∧ Imm Nowhere W v (argDV tt t ds) := by
  obtain ⟨m, h⟩ := h
  obtain ⟨ds, h1, h2, h3⟩ := read_ok hT n t m _ _ h hs
  refine ⟨ds, h1, ?_⟩
  have one : v.cells = #[v] → v.oneCell' = true → (tinfo tt t).agg = false → (tinfo tt t).size = 1 → Imm Nowhere W v (argDV tt t ds) := by
    intro hc ho ha hz
    rw [hc] at h3
    rw [hz] at h2
    obtain ⟨d, rfl⟩ := List.length_eq_one_iff.1 h2
    unfold argDV
    rw [ha]
    exact h3.imm 0 v d rfl rfl
  cases n with
  | zero => simp [shutT] at hs
  | succ n =>
    have aggOf : ∀ {D : TypeDesc}, P.underlying t = some D → ((tinfo tt t).size ≠ 0 ∨ (tinfo tt t).k ≠ .other) → (tinfo tt t).agg = aggD D := by
      intro D hD hh
      obtain ⟨D', hD', _, ha⟩ := (tab_entry hT hh).kind
      rw [hD] at hD'
      cases hD'
      exact ha.symm
    unfold shutT at hs
    split at hs
    · rename_i k hk
      have hu := tab_int hT hk
      simp only [Value.okWide, hu, Cell.okWide] at hv
      cases v <;> first | exact one rfl rfl (aggOf hu (.inr (by rw [hk]; simp))) (Nat.eq_of_beq_eq_true hs) | (simp [Cell.ok, hu] at hv)
    · rename_i hk
      have hu := tab_bool hT hk
      simp only [Value.okWide, hu, Cell.okWide] at hv
      cases v <;> first | exact one rfl rfl (aggOf hu (.inr (by rw [hk]; simp))) (Nat.eq_of_beq_eq_true hs) | (simp [Cell.ok, hu] at hv)
    · rename_i hk
      have hu := tab_str hT hk
      simp only [Value.okWide, hu, Cell.okWide] at hv
      cases v <;> first | exact one rfl rfl (aggOf hu (.inr (by rw [hk]; simp))) (Nat.eq_of_beq_eq_true hs) | (simp [Cell.ok, hu] at hv)
    · rename_i e hk
      have hu := tab_slc hT hk
      simp only [Bool.and_eq_true] at hs
      obtain ⟨_, _, _, rfl⟩ := Go.WideShapes.okWide_slice hu hv
      exact one rfl rfl (aggOf hu (.inr (by rw [hk]; simp))) (Nat.eq_of_beq_eq_true hs.1.1)
    · rename_i fs hk
      obtain ⟨F, hu, _, ha⟩ := tab_st hT hk
      simp only [Value.okWide, hu] at hv
      obtain ⟨cs, rfl, _⟩ := hv
      unfold argDV
      rw [ha]
      obtain ⟨l, rfl⟩ : ∃ l : List Value, cs = l.toArray := ⟨cs.toList, by simp⟩
      exact .agg (by simpa [Value.cells] using h3.len) (fun v hv => h3.one v (by simpa [Value.cells] using hv)) (fun i v d hv hd => h3.imm i v d (by simpa [Value.cells] using hv) hd)
    · cases hs
theorem args_ok (hT : tabOk P tt = true) {sp : Nat → Bool} {base b2 : Nat} {held : Bool} {n : Nat} : ∀ {ts : List TypeId} {vs : List Value} {ds : List (DataW H)} {ps : List MemPlace}, (∀ (j : Nat) t v, ts[j]? = some t → vs[j]? = some v → Value.okWide P W .any b2 t v) →
    DataW.TrodAll enc P W base sp held ts vs ds ps → ts.all (shutT tt n) = true → ∃ dvs, DatAll tt n ts dvs ∧ ImmAll Nowhere W vs dvs ∧ ds.length = ts.length
  | [], [], [], ps, _, _, _ => ⟨[], rfl, trivial, rfl⟩
  | t :: ts, v :: vs, d :: ds, ps, hv, h, hs => by
    obtain ⟨p, q, h1, h2, _⟩ := h
    simp only [List.all_cons, Bool.and_eq_true] at hs
    obtain ⟨a, k1, k2⟩ := arg_ok hT (hv 0 t v rfl rfl) h1 hs.1
    obtain ⟨b, k3, k4, k5⟩ := args_ok hT (fun j t v h1 h2 => hv (j + 1) t v (by simpa using h1) (by simpa using h2)) h2 hs.2
    exact ⟨_, ⟨a, b, rfl, k1, k3⟩, ⟨k2, k4⟩, by simp [k5]⟩
  | [], [], _ :: _, ps, _, h, _ => h.elim
  | [], _ :: _, _, ps, _, h, _ => h.elim
  | _ :: _, [], _, ps, _, h, _ => h.elim
  | _ :: _, _ :: _, [], ps, _, h, _ => h.elim
theorem args_kept (hl : laidOutB P = true) {W' : World} (hb : Go.RowKit.Below W.heap.size W W') : ∀ {ts : List TypeId} {vs : List Value} {ds : List (DataW H)} {ps : List MemPlace}, ts.all (fun t => P.readableRec t && decide (t < P.types.size)) = true → (∀ x ∈ ps, x.block < W.heap.size) →
    DataW.TrodAll enc P W 0 (fun _ => true) true ts vs ds ps → DataW.TrodAll enc P W' 0 (fun b => decide (b < W.heap.size)) true ts vs ds ps
  | [], [], [], ps, _, _, h => h
  | t :: ts, v :: vs, d :: ds, ps, hr, hlt, h => by
    obtain ⟨p, q, h1, h2, rfl⟩ := h
    simp only [List.all_cons, Bool.and_eq_true, decide_eq_true_eq] at hr
    exact ⟨p, q, Go.RowKit.Below.trod hl hr.1.1 hr.1.2 h1 hb (fun x hx => hlt x (by simp [hx])), args_kept hl hb hr.2 (fun x hx => hlt x (by simp [hx])) h2, rfl⟩
  | [], [], _ :: _, ps, _, _, h => h.elim
  | [], _ :: _, _, ps, _, _, h => h.elim
  | _ :: _, [], _, ps, _, _, h => h.elim
  | _ :: _, _ :: _, [], ps, _, _, h => h.elim

theorem law_end (hT : tabOk P tt = true) {f : FuncId} {fn : Func} {s : ChangeSpec} {base n : Nat} {t : TypeId} {args : Array Value} {ds gs : List (DataW H)} {before : List MemPlace}
    (hval : ∀ (j : Nat) t v, fn.params[j]? = some t → args[j]? = some v → Value.okWide P W .any base t v) (hW : DataW.Whole enc P fn.params.toList s.vars false W args.toList ds gs before)
    (hvars : s.vars = []) (hfn : ∀ ds : List (DataW H), ds.length = fn.params.size → s.fn H ds = { results := [.lit (.bool true)], args := ds, vars := [] }) (hres : fn.resultTypes = #[t]) (hbool : P.underlying t = some .bool)
    (hs : fn.params.toList.all (shutT tt n) = true) (hl : laidOutB P = true) (hr : fn.params.toList.all (fun t => P.readableRec t && decide (t < P.types.size)) = true)
    (hret : ∀ dvs, DatAll tt n fn.params.toList dvs → Ret P f dvs (.v (.bool true))) :
    Calls P f args W fun e W' => ∃ v, e = .returned v ∧ s.post enc P fn false true false false W args v W' := by
  obtain ⟨p, q, hA, hV, rfl, hfz, hnd⟩ := hW
  rw [hvars] at hV
  obtain ⟨dvs, h1, h2, h3⟩ := args_ok hT (fun j t v h1 h2 => hval j t v (by simpa using h1) (by simpa using h2)) hA hs
  have hcall := (hret dvs h1).2 Nowhere W args.toList (fun _ h => h.elim) h2
  refine hcall.mono fun e W' ⟨v, he, hi, hg⟩ => ⟨v, he, ?_⟩
  have hv := hi.v_inv
  subst hv
  obtain ⟨rfl, rfl⟩ : gs = [] ∧ q = [] := by
    cases gs with
    | nil => exact ⟨rfl, hV⟩
    | cons _ _ => exact hV.elim
  have hb : Go.RowKit.Below W.heap.size W W' := ⟨hg.os, hg.tape, hg.output, hg.size, fun k hk => hg.block k hk (by simp)⟩
  have hlt : ∀ x ∈ p, x.block < W.heap.size := hA.lt
  have hf := hfn ds (by rw [h3]; simp)
  refine ⟨ds, [], p ++ [], [], p, [], ⟨p, [], hA, by rw [hvars]; exact hV, rfl, hfz, hnd⟩, ?_, ?_, ?_, hb.frame _, fun h => by cases h⟩
  · rw [List.append_nil, hf, hres]
    refine ⟨[], [], ⟨1, ?_⟩, rfl, rfl⟩
    simp [Value.cells, DataW.trod, hbool]
  · rw [List.append_nil, hf]
    exact args_kept hl hb hr hlt hA
  · rw [List.append_nil, hf, hvars]
    rfl
end
end Go.Lift

namespace Go.Lift
open Go
theorem get_map {α : Type} {l : List α} {f : α → List DV} {i : Nat} (h : i < l.length) : (l.map f)[i]? = some (f (l[i]'h)) := by simp [h]
theorem dle_int {k : IntKind} {a b : Int} (h : a = b) : dle (.v (.int k a)) (.v (.int k b)) := by subst h; exact .refl
theorem dle_lst {sz : Nat} {f : Bool} {es es' : List (List DV)} (h : es = es') : dle (.lst sz es f) (.lst sz es' f) := by subst h; exact .refl
theorem dleAll_get : ∀ {l l' : List DV}, DleAll l l' → l.length = l'.length ∧ ∀ (i : Nat) c d, l[i]? = some c → l'[i]? = some d → dle c d
  | [], [], _ => ⟨rfl, fun i c d h _ => by simp at h⟩
  | [], _ :: _, h => h.elim
  | _ :: _, [], h => h.elim
  | x :: l, y :: l', h => by
    obtain ⟨h1, h2⟩ := dleAll_get h.2
    refine ⟨by simp [h1], fun i c d hc hd => ?_⟩
    cases i with
    | zero =>
      simp only [List.getElem?_cons_zero, Option.some.injEq] at hc hd
      subst hc; subst hd; exact h.1
    | succ i => exact h2 i c d (by simpa using hc) (by simpa using hd)
theorem dle_aggA {cs ds : List DV} (h : DleAll cs ds) : dle (.agg cs) (.agg ds) := .agg (dleAll_get h).1 (dleAll_get h).2
theorem dle_tupA {cs ds : List DV} (h : DleAll cs ds) : dle (.tup cs) (.tup ds) := .tup (dleAll_get h).1 (dleAll_get h).2
theorem dle_bool {a b : Bool} (h : a = b) : dle (.v (.bool a)) (.v (.bool b)) := by subst h; exact .refl
theorem list_data {α : Type} {f : α → List DV} {Q : α → Prop} : ∀ {es : List (List DV)}, (∀ r ∈ es, ∃ x, r = f x ∧ Q x) → ∃ l : List α, es = l.map f ∧ ∀ x ∈ l, Q x
  | [], _ => ⟨[], rfl, by simp⟩
  | r :: es, h => by
    obtain ⟨x, rfl, hx⟩ := h r (by simp)
    obtain ⟨l, rfl, hl⟩ := list_data (es := es) (fun r hr => h r (by simp [hr]))
    exact ⟨x :: l, rfl, by simpa using ⟨hx, hl⟩⟩
theorem wrap_i64 {n : Int} (h1 : -9223372036854775808 ≤ n) (h2 : n ≤ 9223372036854775807) : IntKind.i64.wrap n = n := by
  simp [IntKind.wrap, IntKind.signed, IntKind.bits]
  omega
theorem wrap_u8 {n : Int} (h1 : 0 ≤ n) (h2 : n ≤ 255) : IntKind.u8.wrap n = n := by
  simp [IntKind.wrap, IntKind.signed, IntKind.bits]
  omega
theorem wrap_succ {i : Nat} (h : i < 9223372036854775807) : IntKind.i64.wrap ((i : Int) + 1) = ((i + 1 : Nat) : Int) := by
  rw [wrap_i64 (by omega) (by omega)]; rfl
theorem dcond_t {b : Bool} {x y : Prop} (h : b = true) (hx : x) : dcond b x y := by subst h; exact hx
theorem dcond_f {b : Bool} {x y : Prop} (h : b = false) (hy : y) : dcond b x y := by subst h; exact hy
def findB (p : Nat → Bool) (n : Nat) : Int := match (List.range n).find? p with
  | some i => (i : Nat)
  | none => -1
theorem findB_at {p : Nat → Bool} {n i : Nat} (hi : i < n) (hp : p i = true) (hall : ∀ j, j < i → p j = false) : findB p n = i := by
  have : (List.range n).find? p = some i := by
    rw [List.find?_range_eq_some]
    exact ⟨hp, by simpa using hi, fun j hj => by simp [hall j hj]⟩
  simp [findB, this]
theorem findB_none {p : Nat → Bool} {n : Nat} (hall : ∀ j, j < n → p j = false) : findB p n = -1 := by
  have : (List.range n).find? p = none := by
    rw [List.find?_eq_none]
    intro j hj
    simp [hall j (by simpa using hj)]
  simp [findB, this]
def allB (p : Nat → Bool) (n : Nat) : Bool := (List.range n).all p
theorem allB_true {p : Nat → Bool} {n : Nat} : allB p n = true ↔ ∀ j, j < n → p j = true := by simp [allB]
theorem allB_false {p : Nat → Bool} {n i : Nat} (hi : i < n) (hp : p i = false) : allB p n = false := by
  cases h : allB p n with
  | false => rfl
  | true => rw [allB_true] at h; rw [h i hi] at hp; cases hp
end Go.Lift

namespace Go.Lift
open Go

section
variable {P : Program} {tt : TT} {A0 : Nat → Prop} {w0 : Home} {n : Nat} {os : Objs} {s : DS} {a : Act} {w : World} {A : Nat → Prop}

theorem repAll_get : ∀ {vs : List Value} {ds : List DV}, RepAll A os w vs ds → vs.length = ds.length ∧ ∀ (i : Nat) v d, vs[i]? = some v → ds[i]? = some d → RepV A os w v d
  | [], [], _ => ⟨rfl, by simp⟩
  | [], _ :: _, h => h.elim
  | _ :: _, [], h => h.elim
  | v :: vs, d :: ds, h => by
    obtain ⟨h1, h2⟩ := repAll_get h.2
    refine ⟨by simp [h1], fun i v' d' hv hd => ?_⟩
    cases i with
    | zero => simp at hv hd; subst hv; subst hd; exact h.1
    | succ i => exact h2 i v' d' (by simpa using hv) (by simpa using hd)
theorem plainD {x : Value} {d : DV} (h : RepV A os w x d) (hp : plainAll (dcells d) = true) : Imm A w x d := by
  have hm := plainAll_mem hp
  by_cases hd : ∃ cs, d = .agg cs
  · obtain ⟨cs, rfl⟩ := hd
    obtain ⟨vs, rfl, hl, hone, hpp⟩ := h.agg_inv
    exact .agg hl hone (fun i v d hv hd => ((hpp i v d hv hd).plain (hm d (List.mem_of_getElem? hd))).2)
  · have : dcells d = [d] := by cases d <;> first | rfl | exact absurd ⟨_, rfl⟩ hd
    exact (h.plain (hm d (by rw [this]; simp))).2
theorem resP_ok (hT : tabOk P tt = true) (h : Rep A0 w0 n os s a w) : ∀ {rs : List ResultVar} {Q : List DV → Prop}, resP tt s rs Q → ∃ vs ds, Q ds ∧ vs.length = rs.length ∧ vs.length = ds.length ∧ (∀ (i : Nat) v d, vs[i]? = some v → ds[i]? = some d → (isOwn d = true ∨ Imm (avoid A0 os) w v d) ∧ RepV (avoid A0 os) os w v d) ∧
    (List.mapM (m := Sem) (fun r : ResultVar => match r with
      | .tmp t => pure (a.tmps.getD t undef)
      | .cell p t => do loadVar t (← asAddr (a.tmps.getD p undef))) rs).run P w = .ok vs w
  | [], Q, hK => ⟨[], [], hK, rfl, rfl, fun i v d hv _ => by simp at hv, by simp⟩
  | .tmp t :: r, Q, hK => by
    have hK := frc_iff.1 hK
    split at hK
    · rename_i hpl
      have hi : (isOwn (look s.env t) = true ∨ Imm (avoid A0 os) w (a.tmps.getD t undef) (look s.env t)) ∧ RepV (avoid A0 os) os w (a.tmps.getD t undef) (look s.env t) := by
        refine ⟨?_, h.env t⟩
        cases ho : isOwn (look s.env t)
        · rw [ho, Bool.false_or] at hpl
          exact .inr (plainD (h.env t) hpl)
        · exact .inl rfl
      obtain ⟨vs, ds, hQ, h1, h2, h3, h4⟩ := resP_ok hT h hK
      refine ⟨a.tmps.getD t undef :: vs, _ :: ds, hQ, by simp [h1], by simp [h2], fun i v d' hv hd => ?_, ?_⟩
      · cases i with
        | zero =>
          simp only [List.getElem?_cons_zero, Option.some.injEq] at hv hd
          subst hv hd; exact hi
        | succ i => exact h3 i v d' (by simpa using hv) (by simpa using hd)
      · rw [List.mapM_cons]
        simp only [Sem.run_bind, Sem.run_pure, Result.andThen_ok, h4]
    · exact hK.elim
  | .cell p ty :: r, Q, hK => by
    unfold resP at hK
    have hp := h.env p
    split at hK
    · rename_i i off e
      rw [e] at hp
      obtain ⟨g, t', cs', hi, hv⟩ := hp.lp_inv
      split at hK
      · rename_i t2 cs hl
        rw [h.loc] at hl
        obtain ⟨x', hi'⟩ := lget_os hl (by simp)
        rw [hi] at hi'
        cases hi'
        split at hK
        · exact hK.elim
        · rename_i hs
          obtain ⟨_, _, _, _, _, _, hcell⟩ := obj_cells h.obj hi
          obtain ⟨_, hK⟩ := dropK_elim hK
          obtain ⟨d, y, hK, hy1, hy2⟩ := load_take (P := P) hT hs (ad := ⟨g, off, none⟩) (fun j d hd => by rw [List.getElem?_drop] at hd; rw [Addr.add_mk]; exact hcell _ d hd) hK
          split at hK
          · rename_i hpl
            have him := plainD hy2 hpl
            obtain ⟨vs, ds, hQ, h1, h2, h3, h4⟩ := resP_ok hT h hK
            refine ⟨y :: vs, d :: ds, hQ, by simp [h1], by simp [h2], fun i v d' hv hd => ?_, ?_⟩
            · cases i with
              | zero =>
                simp only [List.getElem?_cons_zero, Option.some.injEq] at hv hd
                subst hv hd; exact ⟨.inr him, .imm him⟩
              | succ i => exact h3 i v d' (by simpa using hv) (by simpa using hd)
            · rw [List.mapM_cons]
              have e1 : (asAddr (a.tmps.getD p undef)).run P w = .ok ⟨g, off, none⟩ w := by rw [hv]; rfl
              simp only [Sem.run_bind, Sem.run_pure, Result.andThen_ok, e1, hy1, h4]
          · exact hK.elim
      · exact hK.elim
    · exact hK.elim
theorem resM_ok (hT : tabOk P tt = true) {fn : Func} {Q : DV → Prop} (h : Rep A0 w0 n os s a w) (hK : resM tt s fn.results.toList Q) : ∃ v d, Q d ∧ (results fn a.tmps).run P w = .ok v w ∧ RepV (avoid A0 os) os w v d := by
  have fin : ∀ {vs : List Value}, (List.mapM (m := Sem) (fun r : ResultVar => match r with
      | .tmp t => pure (a.tmps.getD t undef)
      | .cell p t => do loadVar t (← asAddr (a.tmps.getD p undef))) fn.results.toList).run P w = .ok vs w → (results fn a.tmps).run P w = .ok (if h : vs.toArray.size = 1 then vs.toArray[0] else .tuple vs.toArray) w := by
    intro vs h4
    unfold results
    rw [Array.mapM_eq_mapM_toList]
    simp only [Sem.run_bind, Sem.run_map, Result.andThen_ok, Sem.run_pure]
    exact congrArg (fun r : Result (List Value) => (r.andThen fun a w' => Result.ok a.toArray w').andThen fun a w' => Result.ok (if h : a.size = 1 then a[0] else .tuple a) w') h4
  have many : resP tt s fn.results.toList (fun l => Q (.tup l)) → fn.results.toList.length ≠ 1 → ∃ v d, Q d ∧ (results fn a.tmps).run P w = .ok v w ∧ RepV (avoid A0 os) os w v d := by
    intro hK hne
    obtain ⟨vs, ds, hQ, h1, h2, h3, h4⟩ := resP_ok hT h hK
    refine ⟨_, _, hQ, fin h4, ?_⟩
    have : ¬ (vs.toArray.size = 1) := by simp; omega
    rw [dif_neg this]
    exact .tup h2 (fun i v d hv hd => (h3 i v d hv hd).1) (fun i v d hv hd => (h3 i v d hv hd).2)
  unfold resM at hK
  split at hK
  · rename_i t e
    have hK := frc_iff.1 hK
    refine ⟨_, _, hK, fin (vs := [a.tmps.getD t undef]) (by rw [e]; simp), ?_⟩
    simpa using h.env t
  · rename_i p ty e
    have hp := h.env p
    split at hK
    · rename_i i off e2
      rw [e2] at hp
      obtain ⟨g, t', cs', hi, hv⟩ := hp.lp_inv
      split at hK
      · rename_i t2 cs hl
        rw [h.loc] at hl
        obtain ⟨x', hi'⟩ := lget_os hl (by simp)
        rw [hi] at hi'
        cases hi'
        split at hK
        · exact hK.elim
        · rename_i hs
          obtain ⟨_, _, _, _, _, _, hcell⟩ := obj_cells h.obj hi
          obtain ⟨_, hK⟩ := dropK_elim hK
          obtain ⟨d, y, hK, hy1, hy2⟩ := load_take (P := P) hT hs (ad := ⟨g, off, none⟩) (fun j d hd => by rw [List.getElem?_drop] at hd; rw [Addr.add_mk]; exact hcell _ d hd) hK
          refine ⟨y, d, hK, ?_, hy2⟩
          have := fin (vs := [y]) (by
            rw [e]
            have e1 : (asAddr (a.tmps.getD p undef)).run P w = .ok ⟨g, off, none⟩ w := by rw [hv]; rfl
            simp only [List.mapM_cons, List.mapM_nil, Sem.run_bind, Sem.run_pure, Result.andThen_ok, e1, hy1])
          simpa using this
      · exact hK.elim
    · exact hK.elim
  · rename_i h1 h2
    refine many hK (fun hl => ?_)
    cases hr : fn.results.toList with
    | nil => rw [hr] at hl; simp at hl
    | cons r rs =>
      cases rs with
      | nil => cases r with
        | tmp t => exact h1 t hr
        | cell p t => exact h2 p t hr
      | cons r2 rs => rw [hr] at hl; simp at hl

theorem hdls_len : ∀ (L : List LObj) (k : Nat), (hdls k L).length = L.length
  | [], k => rfl
  | o :: r, k => by rw [hdls, List.length_cons, hdls_len r]; rfl
theorem hdls_get : ∀ (L : List LObj) (b i : Nat) (d : DV), (hdls b L)[i]? = some d → ∃ o, L[i]? = some o ∧ d = hdl (b + i) o
  | [], b, i, d, h => by simp [hdls] at h
  | o :: r, b, 0, d, h => by simp [hdls] at h; exact ⟨o, rfl, by simpa using h.symm⟩
  | o :: r, b, i + 1, d, h => by
    rw [hdls] at h
    obtain ⟨o', h1, h2⟩ := hdls_get r (b + 1) i d (by simpa using h)
    exact ⟨o', by simpa using h1, by rw [h2, Nat.add_assoc, Nat.add_comm 1 i]⟩
theorem keptG_get : ∀ (ks : List Bool) (L' : List LObj) (b i : Nat) (o : LObj), ks[i]? = some true → L'[i]? = some o → (keptG b ks L')[i]? = some (hdl (b + i) o)
  | [], L', b, i, o, h, _ => by simp at h
  | k :: ks, [], b, i, o, _, h => by simp at h
  | k :: ks, o1 :: L', b, 0, o, h1, h2 => by
    simp at h1 h2
    subst h1; subst h2
    rfl
  | k :: ks, o1 :: L', b, i + 1, o, h1, h2 => by
    have := keptG_get ks L' (b + 1) i o (by simpa using h1) (by simpa using h2)
    cases k <;> · rw [keptG]; simpa [Nat.add_assoc, Nat.add_comm 1 i] using this
def hdr (p : Value × LObj) : Value :=
  match p.2 with
  | .row .. => p.1
  | .cells .. => p.1
  | _ => .nilFunc
theorem deadAt_get : ∀ {m : Nat} {l : List LObj} {o : LObj}, deadAt m l = true → l[m]? = some o → o = .dead
  | m, [], o, _, h => by simp at h
  | 0, x :: r, o, hd, h => by
    simp at h
    subst h
    cases x <;> simp [deadAt] at hd
    rfl
  | m + 1, x :: r, o, hd, h => deadAt_get (m := m) (l := r) (by simpa [deadAt] using hd) (by simpa using h)

theorem ObjOk.home {B B' : Home} {x : Value} {o : LObj} (h : ObjOk A os B w x o) (hg : ∀ ds, o ≠ .gh ds) (hm : ∀ b, o ≠ .dead → blk x = some b → B'.mine b) : ObjOk A os B' w x o := by
  cases o with
  | dead => exact trivial
  | gone => exact h
  | gh ds => exact absurd rfl (hg ds)
  | cells t cs =>
    obtain ⟨g, arr, rfl, hB, rest⟩ := h
    exact ⟨g, arr, rfl, hm g (by simp) rfl, rest⟩
  | row e sz es => exact ⟨fun b hb => hm b (by simp) hb, h.2⟩

theorem retM_core (hm : P.follows .mixedOrders = true) (hT : tabOk P tt = true) (h0 : (tinfo tt 0).size = 0) {f : FuncId} {fn : Func} {c : Code} {L L' : List LObj} {args : List DV} {kept : List Bool} {d : DV} (hf : P.funcs[f]? = some fn) (hname : (fn.name == "runtime.NumGoroutine") = false) (hb : fn.body = some c)
    (hfit : codeFits fn.ntmps c = true) (hn : Nat.ble args.length fn.ntmps = true) (hL : noGh L = true) {D : DS → Prop} (h : dcode tt P c (fun e s => match e with
      | .normal | .ret => D s
      | _ => False) ⟨enum 0 args, L ++ ghOf L⟩)
    (hD : ∀ {A0 : Nat → Prop} {w0 : Home} {n : Nat} {os : Objs} {s : DS} {a : Act} {w : World}, Rep A0 w0 n os s a w → D s → ∃ os' s', Rep A0 w0 n os' s' a w ∧ dpostM tt fn.results.toList L kept L' d s') : RetM P f L args kept L' d := by
  have hn := Nat.le_of_ble_eq_true hn
  refine ⟨fun vs w => ?_, fun A w os vals hA hlaid hvals => ?_⟩
  · simp only [callFunc, Sem.run_bind, run_program, Result.andThen_ok, hf, hname, hb, Option.isNone_some]
    rfl
  · obtain ⟨hlen, hvals⟩ := repAll_get hvals
    have hol : os.length = L.length := by rw [← hlaid.loc]; simp
    have hloc : ∀ {i : Nat} {x : Value} {o : LObj}, os[i]? = some (x, o) → L[i]? = some o := by
      intro i x o hi
      rw [← hlaid.loc, List.getElem?_map, hi]
      rfl
    let gh : Objs := match L with
      | [] => []
      | _ => [(.tuple (os.map hdr).toArray, .gh (hdls 0 L))]
    have hghl : gh.map (·.2) = ghOf L := by simp only [gh, ghOf]; cases L <;> rfl
    have hghb : ∀ p ∈ gh, blk p.1 = none := by
      intro p hp
      simp only [gh] at hp
      split at hp
      · simp at hp
      · simp at hp; subst hp; rfl
    have hget1 : ∀ {i : Nat} {x : Value} {o : LObj}, (os ++ gh)[i]? = some (x, o) → os[i]? = some (x, o) ∨ (os.length ≤ i ∧ gh[i - os.length]? = some (x, o) ∧ blk x = none) := by
      intro i x o hi
      by_cases hlt : i < os.length
      · rw [List.getElem?_append_left hlt] at hi; exact .inl hi
      · rw [List.getElem?_append_right (by omega)] at hi
        exact .inr ⟨by omega, hi, hghb _ (List.mem_of_getElem? hi)⟩
    have hof1 : ∀ b, ofOs (os ++ gh) b → ofOs os b := by
      rintro b ⟨i, x, o, hi, hd, hbb⟩
      rcases hget1 hi with hi | ⟨_, _, h2⟩
      · exact ⟨i, x, o, hi, hd, hbb⟩
      · rw [h2] at hbb; cases hbb
    have hal : Alike os (os ++ gh) := fun i x o hi => ⟨o, by rw [List.getElem?_append_left (List.getElem?_eq_some_iff.1 hi).1]; exact hi, by cases o <;> simp [kindIs]⟩
    have hkp : Keeps (avoid A os) (avoid A (os ++ gh)) w w := Keeps.less (by
      rintro b (hb | hb)
      · exact .inl hb
      · exact .inr (hof1 b hb))
    have hmine : ∀ b, ofOs os b → Home.mine ⟨w, ofOs os, os.map hdr⟩ b := fun b hb => .inr hb
    have hrep : Rep A ⟨w, ofOs os, os.map hdr⟩ fn.ntmps (os ++ gh) ⟨enum 0 args, L ++ ghOf L⟩ { tmps := vals.toArray ++ Array.replicate (fn.ntmps - vals.toArray.size) undef, defers := [] } w := by
      refine ⟨by simp; omega, rfl, ⟨rfl, rfl, rfl, Nat.le_refl _, fun _ _ _ => rfl⟩, fun b hb hmn => ?_, by rw [List.map_append, hlaid.loc, hghl], fun t => ?_, fun i x o hi => ?_, fun i j x o y o' b hi hj d1 d2 b1 b2 => ?_⟩
      · rcases hmn with h1 | h1
        · have h2 := hA b hb
          have h1 : w.heap.size ≤ b := h1
          omega
        · exact hlaid.out b hb h1
      · rw [look_enum, if_pos (Nat.zero_le _), Nat.sub_zero]
        cases hd : args[t]? with
        | none => exact .imm .junk
        | some d =>
          have hlt := (List.getElem?_eq_some_iff.1 hd).1
          have hv := List.getElem?_eq_getElem (l := vals) (i := t) (by omega)
          have hi := hvals t _ d hv hd
          have : (vals.toArray ++ Array.replicate (fn.ntmps - vals.toArray.size) undef).getD t undef = vals[t]'(by omega) := by
            rw [Array.getD_eq_getD_getElem?, Array.getElem?_append_left (by simp; omega)]
            simp [hv]
          simp only [Option.getD_some]
          rw [this]
          exact hi.keep hkp hal
      · rcases hget1 hi with hi | ⟨hge, hgi, hbn⟩
        · have hob := (hlaid.obj i x o hi).home (B' := ⟨w, ofOs os, os.map hdr⟩) (noGh_get hL (hloc hi)) (fun b hd hbb => hmine b ⟨i, x, o, hi, hd, hbb⟩)
          exact hob.keep hkp hal (fun _ _ _ => rfl)
        · simp only [gh] at hgi
          split at hgi
          · simp at hgi
          · rename_i hLne
            have h00 : i - os.length = 0 := by
              have := (List.getElem?_eq_some_iff.1 hgi).1
              simpa using this
            rw [h00] at hgi
            simp at hgi
            obtain ⟨rfl, rfl⟩ := hgi
            have gget : ∀ (q : Nat) v e, (os.map hdr)[q]? = some v → (hdls 0 L)[q]? = some e → ∃ x o, os[q]? = some (x, o) ∧ v = hdr (x, o) ∧ e = hdl q o := by
              intro q v e hv he
              obtain ⟨o, h1, h2⟩ := hdls_get L 0 q e he
              rw [List.getElem?_map] at hv
              cases hq : os[q]? with
              | none => rw [hq] at hv; cases hv
              | some p =>
                obtain ⟨x, o2⟩ := p
                have := hloc hq
                rw [h1] at this
                cases this
                rw [hq] at hv
                cases hv
                exact ⟨x, o, rfl, rfl, by rw [h2, Nat.zero_add]⟩
            have one : ∀ (q : Nat) x o, os[q]? = some (x, o) → (hdr (x, o)).oneCell' = true ∧ RepV (avoid A (os ++ gh)) (os ++ gh) w (hdr (x, o)) (hdl q o) := by
              intro q x o hq
              have hq' : (os ++ gh)[q]? = some (x, o) := by rw [List.getElem?_append_left (List.getElem?_eq_some_iff.1 hq).1]; exact hq
              have hob := hlaid.obj q x o hq
              cases o with
              | row e sz es =>
                obtain ⟨xs, hown, _⟩ := obj_row hob
                exact ⟨own_one hown, .own hq' (own_one hown)⟩
              | cells t cs =>
                obtain ⟨g, arr, rfl, _⟩ := hob
                exact ⟨rfl, .lp hq'⟩
              | dead => exact ⟨rfl, .imm .junk⟩
              | gone => exact ⟨rfl, .imm .junk⟩
              | gh ds => exact ⟨rfl, .imm .junk⟩
            refine ⟨rfl, by rw [hdls_len, List.length_map, hol], fun v hv => ?_, fun q v e hv he => ?_⟩
            · obtain ⟨p, hp, rfl⟩ := List.mem_map.1 hv
              obtain ⟨q, hq, rfl⟩ := List.getElem_of_mem hp
              exact (one q _ _ (List.getElem?_eq_getElem hq)).1
            · obtain ⟨x, o, h1, h2, h3⟩ := gget q v e hv he
              subst h2; subst h3
              exact (one q x o h1).2
      · rcases hget1 hi with hi | ⟨_, _, hb1⟩
        · rcases hget1 hj with hj | ⟨_, _, hb2⟩
          · exact hlaid.inj i j x o y o' b hi hj d1 d2 b1 b2
          · rw [hb2] at b2; cases b2
        · rw [hb1] at b1; cases b1
    have done : ∀ (a2 : Act) (w2 : World) (osF : Objs) (sF : DS), Rep A ⟨w, ofOs os, os.map hdr⟩ fn.ntmps osF sF a2 w2 → dpostM tt fn.results.toList L kept L' d sF →
        ∃ v, (results fn a2.tmps).run P w2 = .ok v w2 ∧ ∃ os', Laid A os' L' w2 ∧ RepV (avoid A os') os' w2 v d ∧ Grown (ofOs os) w w2 ∧ (∀ b, ofOs os' b → ofOs os b ∨ w.heap.size ≤ b) ∧ ∀ (i : Nat) x o, kept[i]? = some true → os[i]? = some (x, o) → ∃ o', os'[i]? = some (x, o') := by
      intro a2 w2 osF sF hr hK
      obtain ⟨v, x, ⟨hdx, hle, hck⟩, hrun, hrv⟩ := resM_ok hT hr hK
      simp only [Bool.and_eq_true] at hck
      obtain ⟨⟨⟨⟨⟨hkept, hgh'⟩, hdead⟩, hbd⟩, hbL'⟩, hbF⟩ := hck
      obtain ⟨hks, hLL, _⟩ := keptOk_get (k := 0) hkept
      refine ⟨v, hrun, ?_⟩
      have hfd := hrv.less hdx
      obtain ⟨os2, hr2, hh2, ht2, ha2⟩ := (show Rep A ⟨w, ofOs os, os.map hdr⟩ fn.ntmps osF ⟨[], sF.loc⟩ a2 w2 from ⟨hr.size, hr.defers, hr.gr, hr.a0, hr.loc, fun _ => .imm .junk, hr.obj, hr.inj⟩).le' (t := ⟨[], finL L kept L'⟩) ⟨trivial, hle, by simpa [bndE] using hbF⟩
      have hfin : ∀ {i : Nat} {o : LObj}, (finL L kept L')[i]? = some o → ¬ (L ≠ [] ∧ i = L.length) → L'[i]? = some o := by
        intro i o hi hne
        unfold finL at hi
        split at hi
        · exact hi
        · rename_i hLne
          have hLL' := hLL
          by_cases hlt : i < L.length
          · rw [List.getElem?_append_left (by simp; omega), List.getElem?_take, if_pos hlt] at hi
            exact hi
          · have hgt : L.length < i := by
              rcases Nat.lt_or_ge L.length i with h1 | h1
              · exact h1
              · exact absurd ⟨fun e => hLne e, by omega⟩ hne
            rw [List.getElem?_append_right (by simp; omega)] at hi
            have e1 : (L'.take L.length).length = L.length := by simp; omega
            rw [e1] at hi
            obtain ⟨q, rfl⟩ : ∃ q, i = L.length + (q + 1) := ⟨i - L.length - 1, by omega⟩
            rw [show L.length + (q + 1) - L.length = q + 1 by omega] at hi
            simp only [List.getElem?_cons_succ, List.getElem?_drop] at hi
            rw [← hi]
            congr 1
            omega
      have hle3 : LocLe (finL L kept L') L' := by
        have gen : ∀ (X : List LObj) (Y : List LObj), Y.length ≤ X.length → (∀ (i : Nat) o o', X[i]? = some o → Y[i]? = some o' → ole o o') → LocLe X Y := by
          intro X
          induction X with
          | nil => intro Y hl _; cases Y <;> first | trivial | simp at hl
          | cons x X ih =>
            intro Y hl hp
            cases Y with
            | nil => trivial
            | cons y Y => exact ⟨hp 0 x y rfl rfl, ih Y (by simpa using hl) (fun i o o' h1 h2 => hp (i + 1) o o' (by simpa using h1) (by simpa using h2))⟩
        refine gen _ _ ?_ (fun i o o' h1 h2 => ?_)
        · unfold finL
          split
          · exact Nat.le_refl _
          · simp; omega
        · by_cases hne : L ≠ [] ∧ i = L.length
          · have : o' = .dead := by
              obtain ⟨hne, rfl⟩ := hne
              unfold deadM at hdead
              split at hdead
              · exact absurd rfl hne
              · exact deadAt_get hdead h2
            rw [this]
            exact .dead
          · have := hfin h1 hne
            rw [h2] at this
            cases this
            exact .refl
      obtain ⟨os3, hr3, hh3, ht3, ha3⟩ := hr2.le' (t := ⟨[], L'⟩) ⟨trivial, hle3, by simpa [bndE] using hbL'⟩
      have hmap3 : os3.map (·.2) = L' := hr3.loc.symm
      have hmine3 : ∀ b, ofOs os3 b → Home.mine ⟨w, ofOs os, os.map hdr⟩ b := fun b ⟨i, y, o, hi, hd, hbb⟩ => ((hr3.obj i y o hi).blk_ge hd hbb).1
      have fin2 : ∀ (v : Value) (d : DV), RepV (avoid A osF) osF w2 v d → bnd L' d = true → RepV (avoid A os3) os3 w2 v d := by
          intro v d hfd hbd
          have hb2 : bnd (finL L kept L') d = true := by
            have up : ∀ {j : Nat}, (isRow (lget L' j) = true → isRow (lget (finL L kept L') j) = true) ∧ (isCells (lget L' j) = true → isCells (lget (finL L kept L') j) = true) := by
              intro j
              have key : lget L' j ≠ .dead → lget (finL L kept L') j = lget L' j := by
                intro hnd
                have hj : j < L'.length := by
                  rcases Nat.lt_or_ge j L'.length with h1 | h1
                  · exact h1
                  · exact absurd (by rw [lget_eq, List.getElem?_eq_none h1]; rfl) hnd
                have hj2 : j < (finL L kept L').length := by
                  unfold finL
                  split
                  · exact hj
                  · simp; omega
                have hg := List.getElem?_eq_getElem hj2
                have hne : ¬ (L ≠ [] ∧ j = L.length) := by
                  rintro ⟨hne, rfl⟩
                  unfold deadM at hdead
                  split at hdead
                  · exact hne rfl
                  · have := deadAt_get hdead (List.getElem?_eq_getElem hj)
                    exact hnd (by rw [lget_eq, List.getElem?_eq_getElem hj, this]; rfl)
                have := hfin hg hne
                rw [lget_eq, lget_eq, this, hg]
              constructor
              · intro hq
                rw [key (fun e => by rw [e] at hq; simp [isRow] at hq)]
                exact hq
              · intro hq
                rw [key (fun e => by rw [e] at hq; simp [isCells] at hq)]
                exact hq
            have up0 : ∀ e : DV, bnd0 L' e = true → bnd0 (finL L kept L') e = true := by
              intro e he
              cases e with
              | own j => exact up.1 he
              | rp j k o => exact up.1 he
              | lp j o => exact up.2 he
              | ap j o => exact up.2 he
              | fn g caps =>
                simp only [bnd0, List.all_eq_true] at he ⊢
                intro c hc
                have := he c hc
                cases c <;> first | exact up.2 this | rfl
              | _ => exact he
            by_cases hagg : ∃ cs, d = .agg cs
            · obtain ⟨cs, rfl⟩ := hagg
              simp only [bnd, List.all_eq_true] at hbd ⊢
              exact fun e he => up0 e (hbd e he)
            · have e1 : ∀ l, bnd l d = bnd0 l d := by intro l; cases d <;> first | rfl | exact absurd ⟨_, rfl⟩ hagg
              rw [e1] at hbd ⊢
              exact up0 d hbd
          exact ht3 v d (ht2 v d hfd hb2) hbd
      refine ⟨os3, ⟨hmap3, fun i y o hi => ?_, hr3.inj, fun b hb hof => hr3.a0 b hb (hmine3 b hof)⟩, ?_, hr3.gr, fun b hb => (hmine3 b hb).symm, fun i y o hk hi => ?_⟩
      · refine (hr3.obj i y o hi).home (fun ds e => ?_) (fun _ _ _ => .inr trivial)
        subst e
        have : L'[i]? = some (.gh ds) := by rw [← hmap3, List.getElem?_map, hi]; rfl
        exact noGh_get hgh' this ds rfl
      · by_cases htup : ∃ ds, d = .tup ds
        · obtain ⟨ds, rfl⟩ := htup
          obtain ⟨vs, rfl, hvl, hown, hvp⟩ := hfd.tup_inv
          refine .tup hvl (fun i v d hv hd => ?_) (fun i v d hv hd => ?_)
          · rcases hown i v d hv hd with ho | ho
            · exact .inl ho
            · exact .inr (ho.keep (Keeps.less (fun b hb => ha2 b (ha3 b hb))))
          · rcases hown i v d hv hd with ho | ho
            · have hb1 := List.all_eq_true.1 hbd d (List.mem_of_getElem? hd)
              rw [ho] at hb1
              exact fin2 v d (hvp i v d hv hd) (by simpa using hb1)
            · exact .imm (ho.keep (Keeps.less (fun b hb => ha2 b (ha3 b hb))))
        · have hbd : bnd L' d = true := by
            cases d <;> first | exact hbd | exact absurd ⟨_, rfl⟩ htup
          exact fin2 v d hfd hbd
      · have hLne : L ≠ [] := by
          intro e
          rw [e] at hol
          have := (List.getElem?_eq_some_iff.1 hi).1
          simp at hol
          rw [hol] at this
          simp at this
        have hil : i < L.length := by have := (List.getElem?_eq_some_iff.1 hi).1; omega
        have hL'i := List.getElem?_eq_getElem (l := L') (i := i) (by omega)
        have hkg := keptG_get kept L' 0 i _ hk hL'i
        rw [Nat.zero_add] at hkg
        have hsk := (keptOk_get (k := i) hkept).2.2 o _ hk (hloc hi) hL'i
        have hgl : (finL L kept L')[L.length]? = some (.gh (keptG 0 kept L')) := by
          unfold finL
          split
          · exact absurd rfl hLne
          · have e1 : (L'.take L.length).length = L.length := by simp; omega
            rw [List.getElem?_append_right (by omega), e1, Nat.sub_self]
            rfl
        have hg2 : ∃ y, os2[L.length]? = some (y, .gh (keptG 0 kept L')) := by
          have hloc2 : finL L kept L' = os2.map (·.2) := hr2.loc
          rw [hloc2, List.getElem?_map] at hgl
          cases hq : os2[L.length]? with
          | none => rw [hq] at hgl; cases hgl
          | some p =>
            obtain ⟨y, ob⟩ := p
            rw [hq] at hgl
            simp at hgl
            exact ⟨y, by rw [hgl]⟩
        obtain ⟨y2, hg2⟩ := hg2
        obtain ⟨_, _, _, hgr2⟩ := hr2.obj _ _ _ hg2
        have hhd : (os.map hdr)[i]? = some (hdr (y, o)) := by rw [List.getElem?_map, hi]; rfl
        have hrep2 := hgr2 i _ _ hhd hkg
        have hnei : ¬ (L ≠ [] ∧ i = L.length) := by rintro ⟨_, e⟩; omega
        have h2i : ∃ z, os2[i]? = some (z, L'[i]'(by omega)) := by
          have hloc2 : finL L kept L' = os2.map (·.2) := hr2.loc
          have hfi : (finL L kept L')[i]? = some (L'[i]'(by omega)) := by
            have hj2 : i < (finL L kept L').length := by
              unfold finL
              split
              · exact absurd rfl hLne
              · simp; omega
            have hg := List.getElem?_eq_getElem hj2
            have := hfin hg hnei
            rw [hL'i] at this
            rw [hg, ← this]
          rw [hloc2, List.getElem?_map] at hfi
          cases hq : os2[i]? with
          | none => rw [hq] at hfi; cases hfi
          | some p => rw [hq] at hfi; simp at hfi; exact ⟨p.1, by rw [← hfi]⟩
        obtain ⟨z, h2i⟩ := h2i
        have hz : z = y := by
          generalize hob : (L'[i]'(by omega)) = ob at *
          cases o <;> cases ob <;> simp [sameKind] at hsk
          · simp only [hdl] at hrep2
            obtain ⟨g, t', cs', h5, h6⟩ := hrep2.lp_inv
            rw [h2i] at h5
            cases h5
            exact h6.symm
          · simp only [hdl] at hrep2
            exact (hrep2.own_row h2i).symm
        subst hz
        have h3i : i < os3.length := by
          have : os3.length = L'.length := by rw [← hmap3]; simp
          omega
        have h3g := List.getElem?_eq_getElem h3i
        obtain ⟨o4, h4, _⟩ := hh3 i _ _ (show os3[i]? = some (os3[i].1, os3[i].2) from h3g)
        rw [h2i] at h4
        cases h4
        exact ⟨_, h3g⟩
    refine calls_of_wp hf hb (dcode_ok (A0 := A) (w0 := ⟨w, ofOs os, os.map hdr⟩) (n := fn.ntmps) hm hT h0 c hfit (fun e a w' hN => ?_) hrep h)
    obtain ⟨osF, sF, hr, hK⟩ := hN
    cases e with
    | normal =>
      obtain ⟨osG, sG, hr2, hK⟩ := hD hr hK
      obtain ⟨v, hv, os', h1, h2, h3, h4, h5⟩ := done _ _ _ _ hr2 hK
      exact ⟨hr.defers, v, hv, v, os', rfl, h1, h2, h3, h4, h5⟩
    | ret =>
      obtain ⟨osG, sG, hr2, hK⟩ := hD hr hK
      obtain ⟨v, hv, os', h1, h2, h3, h4, h5⟩ := done _ _ _ _ hr2 hK
      exact ⟨hr.defers, v, hv, v, os', rfl, h1, h2, h3, h4, h5⟩
    | _ => exact hK.elim
theorem retM_of_body (hm : P.follows .mixedOrders = true) (hT : tabOk P tt = true) (h0 : (tinfo tt 0).size = 0) {f : FuncId} {fn : Func} {c : Code} {L L' : List LObj} {args : List DV} {kept : List Bool} {d : DV} (hf : P.funcs[f]? = some fn) (hname : (fn.name == "runtime.NumGoroutine") = false) (hb : fn.body = some c)
    (hfit : codeFits fn.ntmps c = true) (hn : Nat.ble args.length fn.ntmps = true) (hL : noGh L = true) (h : dbodyM tt P c fn.results.toList L args kept L' d) : RetM P f L args kept L' d :=
  retM_core hm hT h0 hf hname hb hfit hn hL (D := dpostM tt fn.results.toList L kept L' d) h fun hr hK => ⟨_, _, hr, hK⟩
def dbodyA (tt : TT) (P : Program) (c : Code) (rs : List ResultVar) (L : List LObj) (args : List DV) (kept : List Bool) (L' : List LObj) (d : DV) : Prop :=
  dcode tt P c (fun e s => match e with
    | .normal | .ret => ∃ ads, adoptK ads s fun s => dpostM tt rs L kept L' d s
    | _ => False) ⟨enum 0 args, L ++ ghOf L⟩
theorem retM_of_bodyA (hm : P.follows .mixedOrders = true) (hT : tabOk P tt = true) (h0 : (tinfo tt 0).size = 0) {f : FuncId} {fn : Func} {c : Code} {L L' : List LObj} {args : List DV} {kept : List Bool} {d : DV} (hf : P.funcs[f]? = some fn) (hname : (fn.name == "runtime.NumGoroutine") = false) (hb : fn.body = some c)
    (hfit : codeFits fn.ntmps c = true) (hn : Nat.ble args.length fn.ntmps = true) (hL : noGh L = true) (h : dbodyA tt P c fn.results.toList L args kept L' d) : RetM P f L args kept L' d :=
  retM_core hm hT h0 hf hname hb hfit hn hL (D := fun s => ∃ ads, adoptK ads s fun s => dpostM tt fn.results.toList L kept L' d s) h fun hr hK => by
    obtain ⟨ads, hK⟩ := hK
    exact adopt_ok ads hr hK
end
end Go.Lift

namespace Go.Lift
open Go

def rw' {α : Type} : Result α → World
  | .ok _ w => w
  | .halt _ w => w
theorem ask_mono {α : Type} (a : Ask α) : ∀ w : World, w.drawn ≤ (w.ask a).2.drawn := by
  induction a with
  | done a => intro w; simp [World.ask]
  | ask what range k ih =>
    intro w
    simp only [World.ask]
    split
    · exact ih _ _
    · refine Nat.le_trans ?_ (ih _ _)
      exact Nat.le_succ _
theorem sys_mono (w : World) (c : Sys) : w.drawn ≤ (w.sys c).2.drawn := by
  have := ask_mono (Kernel.perform c w.os) w
  unfold World.sys
  generalize w.ask (Kernel.perform c w.os) = x at this
  obtain ⟨⟨r, os⟩, w'⟩ := x
  cases r <;> simp_all
theorem viewStore_drawn {p : Program} {w w' : World} {a : Addr} {u : TypeId} {k : Addr} {v : Value} {b : Bool} {l : List Addr} (h : w.viewStore p a u k v b = .ok (w', l)) : w'.drawn = w.drawn := by
  unfold World.viewStore at h
  simp only [bind, Except.bind, pure, Except.pure, throw, throwThe, MonadExceptOf.throw] at h
  repeat' first
    | (cases h; done)
    | (simp only [Except.ok.injEq, Prod.mk.injEq] at h; obtain ⟨h, _⟩ := h; subst h; rfl)
    | split at h
theorem run_mono {α : Type} (p : Program) (s : Sem α) : ∀ w : World, w.drawn ≤ (rw' (s.run p w)).drawn := by
  induction s with
  | pure a => intro w; exact Nat.le_refl _
  | load m a k ih =>
    intro w
    simp only [Sem.run]
    split
    · exact ih _ _
    · split
      · exact ih _ _
      · exact Nat.le_refl _
  | store m a v k ih =>
    intro w
    have hf : ∀ w' l, w.farStore p a v (m == .atomic) = .ok (w', l) → w.drawn ≤ w'.drawn := fun w' l h => by
      unfold World.farStore at h
      split at h
      · split at h
        · rename_i r hr
          simp only [Except.ok.injEq] at h
          subst h
          exact Nat.le_of_eq (viewStore_drawn hr).symm
        · cases h
      · cases h
    cases v with
    | agg _ => exact Nat.le_refl _
    | tuple _ => exact Nat.le_refl _
    | _ =>
      simp only [Sem.run]
      split
      · split
        · exact Nat.le_refl _
        · refine Nat.le_trans ?_ (ih _); exact Nat.le_refl _
      · split
        · rename_i hw
          exact Nat.le_trans (hf _ _ hw) (ih _)
        · exact Nat.le_refl _
  | new o k ih => intro w; simp only [Sem.run]; refine Nat.le_trans ?_ (ih _ _); exact Nat.le_refl _
  | shape r k ih => intro w; exact ih _ _
  | freeze a n k ih => intro w; refine Nat.le_trans ?_ (ih _); simp [World.freeze]; split <;> simp
  | frozen a k ih => intro w; exact ih _ _
  | getObj r k ih =>
    intro w
    simp only [Sem.run]
    split
    · exact Nat.le_refl _
    · exact ih _ _
    · exact Nat.le_refl _
  | setObj r o k ih =>
    intro w
    simp only [Sem.run]
    split
    · exact Nat.le_refl _
    · refine Nat.le_trans ?_ (ih _); exact Nat.le_refl _
    · exact Nat.le_refl _
  | choose q k ih =>
    intro w
    simp only [Sem.run]
    split
    · exact ih _ _
    · refine Nat.le_trans ?_ (ih _ _); exact Nat.le_succ _
  | sys c k ih => intro w; exact Nat.le_trans (sys_mono w c) (ih _ _)
  | program k ih => intro w; exact ih _ _
  | mark m k ih => intro w; exact ih _
  | halt h => intro w; exact Nat.le_refl _
theorem run_ok {α : Type} {p : Program} {s : Sem α} {w w' : World} {a : α} (h : s.run p w = .ok a w') : w.drawn ≤ w'.drawn := by
  have := run_mono p s w
  rw [h] at this
  exact this
theorem run_halt {α : Type} {p : Program} {s : Sem α} {w w' : World} {a : Halt} (h : s.run p w = .halt a w') : w.drawn ≤ w'.drawn := by
  have := run_mono p s w
  rw [h] at this
  exact this
theorem run_res {α : Type} {p : Program} {s : Sem α} {w : World} {r : Result α} (h : s.run p w = r) : w.drawn ≤ (rw' r).drawn := by
  subst h
  exact run_mono p s w
theorem sys_ok {w w' : World} {c : Sys} {r : SysRet} (h : w.sys c = (r, w')) : w.drawn ≤ w'.drawn := by
  have := sys_mono w c
  rw [h] at this
  exact this
def gw : GStep → World
  | .go _ w _ => w
  | .comm _ _ _ _ w _ => w
  | .spawn _ _ w _ => w
  | .count _ w _ => w
  | .timer _ _ w _ => w
  | .alone _ _ w _ => w
  | .newcoro _ _ _ w _ => w
  | .coroswitch _ _ _ w _ => w
  | .collect _ w _ => w
  | .watch _ w _ => w
  | .ended _ w _ => w
@[simp] theorem gw_after (es : Array Event) (s : GStep) : gw (s.after es) = gw s := by cases s <;> rfl
theorem gw_go (g : Goroutine) (w : World) (es : Array Event) : gw (.go g w es) = w := rfl
theorem gw_ended (o : Outcome) (w : World) (es : Array Event) : gw (.ended o w es) = w := rfl
theorem endWith_mono (w : World) (fd : Nat) (x : ByteArray) (o : Outcome) : w.drawn ≤ (gw (endWith w fd x o)).drawn := by
  unfold endWith
  simp only []
  repeat' first
    | exact sys_ok (by assumption)
    | split
theorem endThrow_mono (fr : Frame) (m : String) (w : World) : w.drawn ≤ (gw (endThrow fr m w)).drawn := Nat.le_refl _
theorem endPrinting_mono (p : Program) (fr : Frame) (v : Value) (w : World) : w.drawn ≤ (gw (endPrinting p fr v w)).drawn := by
  unfold endPrinting
  simp only []
  repeat' first
    | exact endThrow_mono _ _ _
    | exact Nat.le_refl _
    | split
theorem endFatal_mono (p : Program) (fr : Frame) (cs : List Frame) (d : Option Dying) (m : String) (w : World) : w.drawn ≤ (gw (endFatal p fr cs d m w)).drawn := by
  unfold endFatal
  simp only []
  repeat' first
    | exact run_ok (by assumption)
    | exact run_halt (by assumption)
    | split
theorem writeOn_mono (p : Program) (fr : Frame) (d : Dying) (f : Fatal) (w : World) : w.drawn ≤ (gw (writeOn p fr d f w)).drawn := by
  unfold writeOn
  simp only [Sem.runT_eq]
  split
  · exact Nat.le_refl _
  · generalize hs : Sem.run p _ w = r
    have := run_res hs
    cases r with
    | ok a w' => exact this
    | halt h w' => cases h <;> exact this
theorem die_mono (p : Program) (fr : Frame) (d : Dying) (w : World) : w.drawn ≤ (gw (die p fr d w)).drawn := by
  unfold die
  simp only [Sem.runT_eq]
  split
  · exact writeOn_mono _ _ _ _ _
  · split
    · split
      · exact Nat.le_refl _
      · exact endWith_mono _ _ _ _
    · split
      · exact Nat.le_refl _
      · split
        · exact run_ok (by assumption)
        · exact run_halt (by assumption)
      · rw [gw_after]
        generalize hs : Sem.run p _ w = r
        have := run_res hs
        clear hs
        split
        · exact this
        · exact this
        · exact this
        · exact Nat.le_trans this (endPrinting_mono _ _ _ _)
        · cases r <;> exact Nat.le_refl _
      · exact Nat.le_refl _
theorem doReturn_mono (p : Program) (main : Bool) (fr : Frame) (cs : List Frame) (d : Option Dying) (v : Value) (w : World) : w.drawn ≤ (gw (doReturn p main fr cs d v w)).drawn := by
  unfold doReturn
  repeat' first
    | exact Nat.le_refl _
    | split
theorem gw_ite {c : Prop} [Decidable c] {a b : GStep} {n : Nat} (h1 : n ≤ (gw a).drawn) (h2 : n ≤ (gw b).drawn) : n ≤ (gw (if c then a else b)).drawn := by
  split <;> assumption
theorem callDeferred_mono (p : Program) (fr : Frame) (cs : List Frame) (dy : Option Dying) (d : Deferred) (w : World) : w.drawn ≤ (gw (callDeferred p fr cs dy d w)).drawn := by
  unfold callDeferred
  simp only [Sem.runT_eq]
  refine gw_ite ?_ ?_
  · exact Nat.le_refl _
  · rw [gw_after]
    generalize hs : Sem.run p _ w = r
    have := run_res hs
    clear hs
    repeat' first
      | exact this
      | exact Nat.le_trans this (endFatal_mono _ _ _ _ _ _)
      | exact Nat.le_trans this (endThrow_mono _ _ _)
      | split
theorem unwind_mono (p : Program) (main : Bool) (fr : Frame) (cs : List Frame) (dy : Option Dying) (w : World) : w.drawn ≤ (gw (unwind p main fr cs dy w)).drawn := by
  unfold unwind
  simp only [Sem.runT_eq]
  repeat' first
    | exact Nat.le_refl _
    | exact callDeferred_mono _ _ _ _ _ _
    | exact doReturn_mono _ _ _ _ _ _ _
    | exact endPrinting_mono _ _ _ _
    | exact run_ok (by assumption)
    | exact run_halt (by assumption)
    | exact Nat.le_trans (run_ok (by assumption)) (doReturn_mono _ _ _ _ _ _ _)
    | rw [gw_after]
    | split
theorem early_mono (p : Program) (fr : Frame) (cs : List Frame) (dy : Option Dying) (g : Nat) (w : World) : w.drawn ≤ (gw (early p fr cs dy g w)).drawn := by
  unfold early
  simp only []
  repeat' first
    | exact Nat.le_refl _
    | (refine Nat.le_trans (run_ok (by assumption)) ?_; exact Nat.le_refl _)
    | exact run_ok (by assumption)
    | exact run_halt (by assumption)
    | split
theorem apply_mono (p : Program) (fr : Frame) (cs : List Frame) (dy : Option Dying) (s : Sem Next) (w : World) (b : Bool) : w.drawn ≤ (gw (stepG.apply p b fr cs dy s w)).drawn := by
  unfold stepG.apply
  simp only [Sem.runT_eq]
  rw [gw_after]
  generalize hx : (if b = true then (Sem.run p s w, Sem.events p s w #[]) else (Sem.run p s w, #[])) = x
  obtain ⟨r, es⟩ := x
  have : w.drawn ≤ (rw' r).drawn := by
    cases b <;> simp at hx <;> exact run_res hx.1
  clear hx
  simp only []
  repeat' first
    | exact this
    | exact Nat.le_trans this (endFatal_mono _ _ _ _ _ _)
    | exact Nat.le_trans this (endThrow_mono _ _ _)
    | exact Nat.le_trans this (early_mono _ _ _ _ _ _)
    | split
theorem oper_mono (p : Program) (fr : Frame) (cs : List Frame) (dy : Option Dying) (w : World) (b : Bool) : w.drawn ≤ (gw (stepG.oper p b fr cs dy w)).drawn := by
  unfold stepG.oper
  repeat' first
    | exact Nat.le_refl _
    | exact apply_mono _ _ _ _ _ _ _
    | split
theorem option_elim {α : Type} {o : Option α} {b : GStep} {f : α → GStep} {n : Nat} (h1 : n ≤ (gw b).drawn) (h2 : ∀ a, n ≤ (gw (f a)).drawn) : n ≤ (gw (o.elim b f)).drawn := by
  cases o
  · exact h1
  · exact h2 _
set_option maxHeartbeats 4000000 in
theorem exec_mono (p : Program) (main : Bool) (fr : Frame) (cs : List Frame) (dy : Option Dying) (w : World) (b : Bool) : w.drawn ≤ (gw (stepG.exec p main b fr cs dy w)).drawn := by
  unfold stepG.exec
  simp only [Sem.runT_eq]
  split
  all_goals (try simp only [gw_go, gw_ended, Nat.le_refl])
  all_goals repeat' first
    | (with_reducible exact Nat.le_refl _)
    | (with_reducible exact apply_mono _ _ _ _ _ _ _)
    | (with_reducible exact oper_mono _ _ _ _ _ _)
    | (with_reducible exact run_ok (by assumption))
    | (with_reducible exact run_halt (by assumption))
    | (with_reducible exact Nat.le_trans (run_ok (by assumption)) (doReturn_mono _ _ _ _ _ _ _))
    | (with_reducible exact Nat.le_trans (run_ok (by assumption)) (apply_mono _ _ _ _ _ _ _))
    | (with_reducible refine option_elim ?_ (fun _ => ?_))
    | rw [gw_after]
    | simp only [gw_go, gw_ended, Nat.le_refl]
    | split
theorem stepG_mono (p : Program) (main : Bool) (g : Goroutine) (w : World) (b : Bool) : w.drawn ≤ (gw (stepG p main g w b)).drawn := by
  obtain ⟨fr, cs, st, dy, of⟩ := g
  unfold stepG
  simp only []
  split
  · exact die_mono _ _ _ _
  · exact exec_mono _ _ _ _ _ _ _
  · exact unwind_mono _ _ _ _ _ _
theorem communicate_mono {p : Program} {rest : Rest} {gs : Array Goroutine} {i : Nat} {g : Goroutine} {cases : Array CommCase} {blocking : Bool} {shape : CommShape} {w : World} {m' : Machine}
    (h : (communicate p rest gs i g cases blocking shape w).1 = .next m') : w.drawn ≤ m'.world.drawn := by
  unfold communicate at h
  simp only [] at h
  have hw : ∀ w', waitingAt rest cases w = some w' → w.drawn ≤ w'.drawn := fun w' h => by
    unfold waitingAt at h
    split at h
    · split at h
      · simp only [Option.some.injEq] at h; subst h; exact Nat.le_refl _
      · cases h
    · simp only [Option.some.injEq] at h; subst h; exact Nat.le_refl _
  repeat' first
    | (simp at h; done)
    | (simp only [Stepped.next.injEq] at h; subst h; exact Nat.le_refl _)
    | (simp only [Stepped.next.injEq] at h; subst h; exact hw _ (by assumption))
    | (simp only [Stepped.next.injEq] at h; subst h; refine Nat.le_trans (run_ok (by assumption)) ?_; exact Nat.le_refl _)
    | (simp only [Stepped.next.injEq] at h; subst h; refine Nat.le_trans (run_ok (by assumption)) (Nat.le_trans (run_ok (by assumption)) ?_); exact Nat.le_refl _)
    | (simp only [Stepped.next.injEq] at h; subst h; refine Nat.le_trans (run_ok (by assumption)) (Nat.le_trans (run_halt (by assumption)) ?_); exact Nat.le_refl _)
    | split at h
theorem look_mono {p : Program} {gs : Array Goroutine} {rest : Rest} {w : World} {m' : Machine} (h : Go.look p gs rest w = Stepped.next m') : w.drawn ≤ m'.world.drawn := by
  unfold Go.look at h
  simp only [] at h
  repeat' first
    | (simp at h; done)
    | (simp only [Stepped.next.injEq] at h; subst h; refine Nat.le_trans (run_ok (by assumption)) ?_; exact Nat.le_refl _)
    | split at h
theorem serve_mono {p : Program} {m m' : Machine} {k : Nat} (h : serve p m k = .next m') : m.world.drawn ≤ m'.world.drawn := by
  unfold serve at h
  simp only [] at h
  repeat' first
    | (simp at h; done)
    | (simp only [Stepped.next.injEq] at h; subst h; exact Nat.le_refl _)
    | split at h
theorem drain_mono (w : World) (c : Nat) : (drain w c).2.drawn = w.drawn := by
  unfold drain
  split <;> rfl
theorem retime_mono (m : Machine) (k : Nat) (t : Timer) (a b : Nat) : (retime m k t a b).2.world.drawn = m.world.drawn := by
  unfold retime
  cases t.chan <;> simp [drain_mono]
theorem timerOp_mono {m m' : Machine} {op : TimerOp} {v : Value} (h : timerOp m op = .ok (v, m')) : m.world.drawn ≤ m'.world.drawn := by
  have ho : ∀ var m1, timerOp.opened m var = some m1 → m1.world.drawn = m.world.drawn := fun var m1 h => by
    unfold timerOp.opened at h
    split at h
    · split at h
      · simp only [Option.some.injEq] at h; subst h; rfl
      · cases h
    · simp only [Option.some.injEq] at h; subst h; rfl
  have hn : ∀ (m1 : Machine) var (f : Nat → Timer → Value × Machine), (∀ k t, (f k t).2.world.drawn = m.world.drawn) → timerOp.named m1 var f = .ok (v, m') → m.world.drawn ≤ m'.world.drawn := fun m1 var f hf h => by
    unfold timerOp.named at h
    split at h
    · simp only [Except.ok.injEq] at h
      have := congrArg (fun (x : Value × Machine) => x.2.world.drawn) h
      simp only [hf] at this
      exact Nat.le_of_eq this
    · cases h
  unfold timerOp at h
  simp only [] at h
  split at h
  · split at h
    · simp only [Except.ok.injEq, Prod.mk.injEq] at h; obtain ⟨_, h⟩ := h; subst h; exact Nat.le_refl _
    · split at h
      · split at h
        · cases h
        · simp only [Except.ok.injEq, Prod.mk.injEq] at h; obtain ⟨_, h⟩ := h; subst h; exact Nat.le_refl _
      · cases h
  · exact hn _ _ _ (fun k t => retime_mono _ _ _ _ _) h
  · split at h
    · rename_i hop
      exact hn _ _ _ (fun k t => (retime_mono _ _ _ _ _).trans (ho _ _ hop)) h
    · cases h
  · simp only [Except.ok.injEq, Prod.mk.injEq] at h; obtain ⟨_, h⟩ := h; subst h; exact Nat.le_refl _
theorem runT_mono {p : Program} {m m' : Machine} {i : Nat} {b : Bool} (h : (runT p m i b).1 = .next m') : m.world.drawn ≤ m'.world.drawn := by
  simp only [runT] at h
  revert h
  generalize m.gs.swapAt! _ _ = gg
  have hg := stepG_mono p (i == 0) gg.1 m.world b
  revert hg
  generalize stepG p _ gg.1 m.world b = s
  intro hg h
  cases s <;> simp only [] at h <;> simp only [gw] at hg
  all_goals first
    | (simp at h; done)
    | exact Nat.le_trans hg (communicate_mono h)
    | exact Nat.le_trans hg (look_mono h)
    | (simp only [Stepped.next.injEq] at h; subst h; exact hg)
    | (repeat' first
        | (simp at h; done)
        | (simp only [Stepped.next.injEq] at h; subst h; exact hg)
        | (simp only [Stepped.next.injEq] at h; subst h; exact Nat.le_trans hg (timerOp_mono (by assumption)))
        | (simp only [endThrow, dieOf, Stepped.next.injEq] at h; subst h; exact hg)
        | split at h)
theorem serve_none {p : Program} {m : Machine} {k : Nat} {m' : Machine} {w : World} (hw : m.world.drawn ≤ w.drawn) (h : serve p { m with world := w } k = .next m') : m.world.drawn ≤ m'.world.drawn :=
  Nat.le_trans hw (serve_mono h)
theorem askOn_mono {p : Program} {m : Machine} : (∀ m' i, askOn p m = .goroutine m' i → m.world.drawn ≤ m'.world.drawn) ∧ ∀ m' ops, askOn p m = .machine (.next m') ops → m.world.drawn ≤ m'.world.drawn := by
  constructor
  · intro m' i h
    unfold askOn at h
    simp only [] at h
    repeat' first
      | (simp at h; done)
      | (simp only [Move.goroutine.injEq] at h; obtain ⟨h, _⟩ := h; subst h; (try simp only [Machine.advanceTo] at *); repeat (first | (with_reducible exact Nat.le_refl _) | (with_reducible refine Nat.le_trans ?_ (run_ok (by assumption))) | dsimp only))
      | split at h
  · intro m' ops h
    unfold askOn at h
    simp only [] at h
    repeat' first
      | (simp at h; done)
      | (simp only [Move.machine.injEq] at h; exact serve_none (run_ok (by assumption)) h.1)
      | (simp only [Move.machine.injEq, Stepped.next.injEq] at h; obtain ⟨h, _⟩ := h; subst h; (try simp only [Machine.advanceTo] at *); repeat (first | (with_reducible exact Nat.le_refl _) | (with_reducible refine Nat.le_trans ?_ (run_ok (by assumption))) | dsimp only))
      | split at h
theorem ask_mono' {p : Program} {m : Machine} : (∀ m' i, Go.ask p m = .goroutine m' i → m.world.drawn ≤ m'.world.drawn) ∧ ∀ m' ops, Go.ask p m = .machine (.next m') ops → m.world.drawn ≤ m'.world.drawn := by
  have key : (∃ m2, m.world.drawn ≤ m2.world.drawn ∧ Go.ask p m = askOn p m2) ∨ (∃ o w, Go.ask p m = .machine (.ended o w)) := by
    unfold Go.ask
    split
    · split
      · exact .inr ⟨_, _, rfl⟩
      · rename_i hr
        cases hl : Go.look p m.gs m.rest _ with
        | next m2 => exact .inl ⟨m2, Nat.le_trans (run_ok hr) (look_mono hl), rfl⟩
        | ended o w => exact .inr ⟨o, w, rfl⟩
      · rename_i hr
        exact .inl ⟨_, run_ok hr, rfl⟩
    · exact .inl ⟨m, Nat.le_refl _, rfl⟩
  rcases key with ⟨m2, h1, h2⟩ | ⟨o, w, h2⟩
  · rw [h2]
    exact ⟨fun m' i h => Nat.le_trans h1 (askOn_mono.1 m' i h), fun m' ops h => Nat.le_trans h1 (askOn_mono.2 m' ops h)⟩
  · rw [h2]
    exact ⟨fun m' i h => (by simp at h), fun m' ops h => (by simp at h)⟩
theorem move_mono {p : Program} {m : Machine} : (∀ m' i, move p m = .goroutine m' i → m.world.drawn ≤ m'.world.drawn) ∧ ∀ m' ops, move p m = .machine (.next m') ops → m.world.drawn ≤ m'.world.drawn := by
  constructor
  · intro m' i h
    unfold move at h
    repeat' first
      | (simp at h; done)
      | (simp only [Move.goroutine.injEq] at h; obtain ⟨h, _⟩ := h; subst h; exact Nat.le_refl _)
      | exact ask_mono'.1 _ _ h
      | exact (ask_mono' (m := { m with rest := { m.rest with slice := none } })).1 _ _ h
      | split at h
  · intro m' ops h
    unfold move at h
    repeat' first
      | (simp at h; done)
      | exact ask_mono'.2 _ _ h
      | exact (ask_mono' (m := { m with rest := { m.rest with slice := none } })).2 _ _ h
      | split at h
theorem step_mono {p : Program} {m m' : Machine} (h : step p m = .next m') : m.world.drawn ≤ m'.world.drawn := by
  unfold step stepT at h
  cases hm : move p m with
  | goroutine m1 i =>
    rw [hm] at h
    exact Nat.le_trans (move_mono.1 _ _ hm) (runT_mono h)
  | machine s ops =>
    rw [hm] at h
    simp only [] at h
    subst h
    exact move_mono.2 _ _ hm
theorem runN_mono {p : Program} : ∀ (n : Nat) {m m' : Machine}, runN p n m = .next m' → m.world.drawn ≤ m'.world.drawn
  | 0, m, m', h => by simp only [runN, Stepped.next.injEq] at h; subst h; exact Nat.le_refl _
  | n + 1, m, m', h => by
    simp only [runN] at h
    cases hs : step p m with
    | next m1 => rw [hs] at h; exact Nat.le_trans (step_mono hs) (runN_mono n h)
    | ended o w => rw [hs] at h; simp at h
theorem calls_drawn {P : Program} {f : FuncId} {args : Array Value} {w : World} {R : Ending → World → Prop} (h : Calls P f args w R) :
    Calls P f args w fun e w' => R e w' ∧ ((∃ v, e = .returned v) → w.drawn ≤ w'.drawn) := fun cs => by
  obtain ⟨e, w', fr, hr, hc, hf, hl⟩ := h cs
  refine ⟨e, w', fr, ⟨hr, ?_⟩, hc, hf, hl⟩
  rintro ⟨v, rfl⟩
  obtain ⟨n, hn⟩ := hc
  exact runN_mono n hn
end Go.Lift

namespace Go.Lift
open Go Go.Proofs
open Go.Sort (grow putRow putCells mapBlock HoldsK PermIn SortedIn SWO)

theorem grown_is {w w' : World} (hg : w.grownBy w' none) (hd : w.drawn ≤ w'.drawn) : ∃ q os, w' = grow (w.drewN q) os := by
  refine ⟨w'.drawn - w.drawn, w'.heap.extract w.heap.size w'.heap.size, ?_⟩
  have h1 : w'.heap = w.heap ++ w'.heap.extract w.heap.size w'.heap.size := by
    apply Array.ext_getElem?
    intro k
    rw [Array.getElem?_append]
    split
    · rename_i h; exact hg.block k h (by simp)
    · rename_i h
      rw [Array.getElem?_extract]
      by_cases hk : k < w'.heap.size
      · rw [if_pos (by omega)]
        congr 1
        omega
      · rw [if_neg (by omega), Array.getElem?_eq_none (by omega)]
  obtain ⟨h, t, n, o, u⟩ := w
  obtain ⟨h', t', n', o', u'⟩ := w'
  obtain ⟨e1, e2, e3, e4, e5⟩ := hg
  simp only at e1 e2 e3 hd h1
  subst e1 e2 e3
  simp only [grow, World.drewN]
  rw [← h1]
  congr 1
  omega
def argV (agg : Bool) (vs : List Value) : Value := bif agg then .agg vs.toArray else vs[0]!
def argD (agg : Bool) (r : List DV) : DV := bif agg then .agg r else r.headD .junk
def SortC (P : Program) (f g : FuncId) (sz : Nat) (agg : Bool) : Prop :=
  ∀ (n : Nat) (enc : Fin (n + 1) → List Value), (∀ x, (enc x).length = sz) → (∀ x, ∀ v ∈ enc x, v.oneCell' = true) → ∀ (cf : Fin (n + 1) → Fin (n + 1) → Int), SWO (ltOf cf) → ∀ (cb : Array Value) (blk cap : Nat) (d : Array (Fin (n + 1))) (w : World),
    (∀ args w, (callFunc g args).run P w = .ok (.enter g args) w) →
    (∀ (m : Nat) (os : Array Obj) (dk : Array (Fin (n + 1))), dk.size = d.size → ∀ x y, Calls P g (#[argV agg (enc x), argV agg (enc y)] ++ cb) (sortWorldK enc sz w blk 0 m dk os) fun e w' =>
      e = .returned (.int .i64 (cf x y)) ∧ ∃ q os', w' = grow ((sortWorldK enc sz w blk 0 m dk os).drewN q) os') →
    HoldsK enc sz w blk 0 d → blk < w.heap.size → d.size < 4611686018427387904 →
    Calls P f #[.slice (some ⟨blk, 0, none⟩) d.size cap, .func (.func g) #[] cb] w fun e w' =>
      e = .returned (.tuple #[]) ∧ ∃ d' m os, PermIn 0 d.size d d' ∧ SortedIn (ltOf cf) 0 d.size d' ∧ w' = sortWorldK enc sz w blk 0 m d' os
theorem flat1 {n : Nat} {enc : Fin (n + 1) → List Value} (hk : ∀ x, (enc x).length = 1) (d : Array (Fin (n + 1))) (off : Nat) (c : Array Value) : putCells (fun x => (enc x)[0]!) off d c = putCells id off (Go.Sort.flatK enc 1 d) c := by
  apply Array.ext_getElem?
  intro k
  simp only [putCells, Array.getElem?_mapIdx]
  congr 1
  funext x
  simp only [Go.Sort.size_flatK, Nat.mul_one]
  split
  · rename_i h
    rw [Go.Sort.get_flatK _ _ _ _ (by omega), Nat.div_one, Nat.mod_one]
    rfl
  · rfl
theorem sortC_1 {P : Program} {ρ : Go.Shelf.Ren} (L : SlLaysF.n6 P ρ) (g : FuncId) : SortC P (ρ.f 6) g 1 false := by
  intro n enc hk h1 cf hO cb blk cap d w eg hcmp hH hblk hsz
  have hput : ∀ (w : World) (dk : Array (Fin (n + 1))), putRow (fun x => (enc x)[0]!) w blk 0 dk = Go.Sort.putRowK enc 1 w blk 0 dk := fun w dk => by
    unfold Go.Sort.putRowK
    unfold putRow
    congr 1
    funext c
    exact flat1 hk dk 0 c
  have hsw : ∀ m dk os, sortWorld (fun x => (enc x)[0]!) w blk 0 m dk os = sortWorldK enc 1 w blk 0 m dk os := fun m dk os => by
    unfold sortWorld sortWorldK
    rw [hput]
  have hmem : ∀ x, (enc x)[0]! ∈ enc x := fun x => by
    have := hk x
    rw [getElem!_pos _ 0 (by omega)]
    exact List.getElem_mem _
  have hH1 : Go.Sort.Holds (fun x => (enc x)[0]!) w blk 0 d := fun j hj => by
    have := hH j (by rw [Go.Sort.size_flatK]; omega)
    rw [Go.Sort.get_flatK _ _ _ _ (by omega), Nat.div_one, Nat.mod_one] at this
    exact this
  have := Any.slices_SortFunc L (fun x => (enc x)[0]!) (fun x => h1 x _ (hmem x)) cf hO g cb blk 0 cap d w eg (fun m os dk hs x y => by
    rw [hsw]
    exact hcmp m os dk hs x y) hH1 hblk hsz
  simp only [hsw] at this
  exact this
end Go.Lift
