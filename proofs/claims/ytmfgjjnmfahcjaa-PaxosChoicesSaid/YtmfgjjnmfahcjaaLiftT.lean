/- A data-level logic for the model: what a body does to data; its soundness (part LiftT). No conditions. -/
import Derived.Test.YtmfgjjnmfahcjaaLiftQ
import Derived.ProofKit
import Derived.OpenShut
import Derived.Carry
import Derived.Deep.Slices
set_option linter.unusedSimpArgs false
set_option linter.unusedVariables false
namespace Go.Lift
open Go

/-! # What a call is given, read as data -/
section
variable {P : Program} {tt : TT} {W : World} {H : Type} {enc : TypeId × Value → H}

def DatFs (g : TypeId → List DV → Prop) : List (TypeId × Nat) → List DV → Prop
  | [], ds => ds = []
  | f :: r, ds => ∃ a b, ds = a ++ b ∧ g f.1 a ∧ DatFs g r b
/-- the cells of a value of a type -/
def Dat (tt : TT) : Nat → TypeId → List DV → Prop
  | 0, _, _ => False
  | n + 1, t, ds => match (tinfo tt t).k with
    | .int k => ∃ i, ds = [.v (.int k i)] ∧ (Lit.int k i).wf = true
    | .bool => ∃ b, ds = [.v (.bool b)]
    | .str => ∃ s : ByteArray, ds = [.v (.string s)] ∧ s.size ≤ maxLen
    | .slc e => ∃ es, ds = [.lst (tinfo tt e).size es false] ∧ es.length ≤ maxLen ∧ ∀ r ∈ es, Dat tt n e r
    | .st fs => DatFs (Dat tt n) fs ds
    | _ => False
def shutFs (tt : TT) (g : TypeId → Bool) : List (TypeId × Nat) → Nat → Nat → Bool
  | [], off, total => Nat.beq off total
  | f :: r, off, total => Nat.beq f.2 off && g f.1 && Nat.blt 0 (tinfo tt f.1).size && shutFs tt g r (off + (tinfo tt f.1).size) total
/-- all that a type is made of is in the table -/
def shutT (tt : TT) : Nat → TypeId → Bool
  | 0, _ => false
  | n + 1, t => match (tinfo tt t).k with
    | .int _ | .bool | .str => Nat.beq (tinfo tt t).size 1
    | .slc e => Nat.beq (tinfo tt t).size 1 && Nat.blt 0 (tinfo tt e).size && shutT tt n e
    | .st fs => Nat.blt 0 (tinfo tt t).size && shutFs tt (shutT tt n) fs 0 (tinfo tt t).size
    | _ => false

abbrev Nowhere : Nat → Prop := fun _ => False
theorem cellsOf_tab (hT : tabOk P tt = true) {t : TypeId} (hs : (tinfo tt t).size ≠ 0) : P.cellsOf t = (tinfo tt t).size := by
  obtain ⟨i, hi, h1, _⟩ := tab_size hT hs
  simp [Program.cellsOf, hi, h1]
structure Cells (W : World) (cs : List Value) (ds : List DV) : Prop where
  len : cs.length = ds.length
  one : ∀ v ∈ cs, v.oneCell' = true
  imm : ∀ (i : Nat) v d, cs[i]? = some v → ds[i]? = some d → Imm Nowhere W v d
theorem Cells.one1 {v : Value} {d : DV} (h1 : v.oneCell' = true) (h : Imm Nowhere W v d) : Cells W [v] [d] :=
  ⟨rfl, fun u hu => by simp at hu; subst hu; exact h1, fun i u e hu he => by
    cases i with
    | zero => simp at hu he; subst hu; subst he; exact h
    | succ i => simp at hu⟩
theorem Cells.append {cs cs' : List Value} {ds ds' : List DV} (h : Cells W cs ds) (h' : Cells W cs' ds') : Cells W (cs ++ cs') (ds ++ ds') :=
  ⟨by simp [h.len, h'.len], fun v hv => by rcases List.mem_append.1 hv with hv | hv; exact h.one v hv; exact h'.one v hv, fun i v d hv hd => by
    by_cases hi : i < cs.length
    · rw [List.getElem?_append_left hi] at hv
      rw [List.getElem?_append_left (by rw [← h.len]; exact hi)] at hd
      exact h.imm i v d hv hd
    · rw [List.getElem?_append_right (by omega)] at hv
      rw [List.getElem?_append_right (by rw [← h.len]; omega), ← h.len] at hd
      exact h'.imm _ v d hv hd⟩
theorem cell_lt {a : Addr} {v : Value} (h : W.cell? a = some v) : a.block < W.heap.size := by
  unfold World.cell? at h
  split at h
  · rename_i hh; exact (Array.getElem?_eq_some_iff.1 hh).1
  · cases h
theorem cells_get {base : Nat} {a : Addr} {n : Nat} {cs : List Value} (h : W.cells? base a n = some cs) : cs.length = n ∧ ∀ (j : Nat) v, cs[j]? = some v → W.cell? (a.add j) = some v := by
  unfold World.cells? at h
  split at h
  · have hl := mapM_some_length h
    rw [List.length_range] at hl
    refine ⟨hl, fun j v hv => ?_⟩
    have hj := (List.getElem?_eq_some_iff.1 hv).1
    have := mapM_some_get h j j (by rw [List.getElem?_range (by omega)])
    rw [this, hv]
  · cases h

theorem fields_ok {g : TypeId → List DV → Prop} {gs : TypeId → Bool} {cs : List Value} {total : Nat} (hlen : cs.length = total) :
    ∀ (fs : List (TypeId × Nat)) (off : Nat), (∀ f ∈ fs, gs f.1 = true → ∃ ds, g f.1 ds ∧ ds.length = (tinfo tt f.1).size ∧ Cells W ((cs.drop f.2).take (tinfo tt f.1).size) ds) → shutFs tt gs fs off total = true → off ≤ total →
      ∃ ds, DatFs g fs ds ∧ ds.length = total - off ∧ Cells W (cs.drop off) ds
  | [], off, _, h, hoff => by
    have := Nat.eq_of_beq_eq_true h
    subst this
    refine ⟨[], rfl, (Nat.sub_self _).symm, ?_⟩
    rw [List.drop_of_length_le (by omega)]
    exact ⟨rfl, by simp, by simp⟩
  | f :: r, off, hf, h, hoff => by
    simp only [shutFs, Bool.and_eq_true] at h
    obtain ⟨⟨⟨h1, h2⟩, h3⟩, h4⟩ := h
    have h1 := Nat.eq_of_beq_eq_true h1
    obtain ⟨ds, hd, hdl, hc⟩ := hf f (by simp) h2
    have hle : off + (tinfo tt f.1).size ≤ total := by
      have := hc.len
      rw [hdl, List.length_take, List.length_drop, h1, hlen] at this
      omega
    obtain ⟨ds', hd', hdl', hc'⟩ := fields_ok hlen r (off + (tinfo tt f.1).size) (fun f' hf' => hf f' (by simp [hf'])) h4 hle
    refine ⟨ds ++ ds', ⟨ds, ds', rfl, hd, hd'⟩, by rw [List.length_append, hdl, hdl']; omega, ?_⟩
    have : cs.drop off = (cs.drop off).take (tinfo tt f.1).size ++ cs.drop (off + (tinfo tt f.1).size) := by
      rw [← List.drop_drop, List.take_append_drop]
    rw [this]
    rw [h1] at hc
    exact hc.append hc'

theorem read_ok (hT : tabOk P tt = true) {sp : Nat → Bool} {base : Nat} {held : Bool} : ∀ (n : Nat) (t : TypeId) (m : Nat) (cs : List Value) (x : DataW H × List MemPlace), DataW.trod enc P W base sp held m t cs = some x → shutT tt n t = true →
    ∃ ds, Dat tt n t ds ∧ ds.length = (tinfo tt t).size ∧ Cells W cs ds
  | 0, t, m, cs, x, _, hs => by simp [shutT] at hs
  | n + 1, t, m, cs, x, h, hs => by
    unfold shutT at hs
    unfold Dat
    split at hs
    · rename_i k hk
      have hz := Nat.eq_of_beq_eq_true hs
      have hu := tab_int hT hk
      cases m with
      | zero => simp [DataW.trod] at h
      | succ m =>
        have key : ∃ i, cs = [.int k i] ∧ (Lit.int k i).wf = true := by
          unfold DataW.trod at h
          rw [hu] at h
          split at h <;> simp_all
        obtain ⟨i, rfl, hw⟩ := key
        exact ⟨_, ⟨i, rfl, hw⟩, by simp [hz], .one1 rfl (.v rfl)⟩
    · rename_i hk
      have hz := Nat.eq_of_beq_eq_true hs
      have hu := tab_bool hT hk
      cases m with
      | zero => simp [DataW.trod] at h
      | succ m =>
        have key : ∃ b, cs = [.bool b] := by
          unfold DataW.trod at h
          rw [hu] at h
          split at h <;> simp_all
        obtain ⟨b, rfl⟩ := key
        exact ⟨_, ⟨b, rfl⟩, by simp [hz], .one1 rfl (.v rfl)⟩
    · rename_i hk
      have hz := Nat.eq_of_beq_eq_true hs
      have hu := tab_str hT hk
      cases m with
      | zero => simp [DataW.trod] at h
      | succ m =>
        have key : ∃ s : ByteArray, cs = [.string s] ∧ s.size ≤ maxLen := by
          unfold DataW.trod at h
          rw [hu] at h
          split at h <;> simp_all
        obtain ⟨s, rfl, hw⟩ := key
        exact ⟨_, ⟨s, rfl, hw⟩, by simp [hz], .one1 rfl (.v rfl)⟩
    · rename_i e hk
      simp only [Bool.and_eq_true] at hs
      obtain ⟨⟨hz, he⟩, hse⟩ := hs
      have hz := Nat.eq_of_beq_eq_true hz
      have he : 0 < (tinfo tt e).size := Nat.le_of_ble_eq_true he
      have hu := tab_slc hT hk
      have hce := cellsOf_tab hT (t := e) (by omega)
      rcases Go.Deep.open_slice hu h with ⟨rfl, _⟩ | ⟨a, len, cap, mm, n', D, Pl, rfl, hb, hl, hm, hmm, _, hel⟩
      · exact ⟨_, ⟨[], rfl, by simp, by simp⟩, by simp [hz], .one1 rfl .nil⟩
      · have hlm : len ≤ mm := by rw [hmm]; split <;> omega
        rw [hce] at hel
        obtain ⟨es, hesl, hes⟩ := list_of (Q := fun i r => ∃ cs', W.cells? base (a.add (i * (tinfo tt e).size)) (tinfo tt e).size = some cs' ∧ Dat tt n e r ∧ r.length = (tinfo tt e).size ∧ Cells W cs' r) len (fun i hi => by
          obtain ⟨cs', h1, h2⟩ := hel i (by omega)
          obtain ⟨ds, h3, h4, h5⟩ := read_ok hT n e n' cs' _ h2 hse
          exact ⟨ds, cs', h1, h3, h4, h5⟩)
        have hcell : ∀ (i j : Nat) r d, es[i]? = some r → r[j]? = some d → ∃ v, W.cell? (a.add (i * (tinfo tt e).size + j)) = some v ∧ v.oneCell' = true ∧ Imm Nowhere W v d := by
          intro i j r d hi hj
          obtain ⟨cs', h1, h3, h4, h5⟩ := hes i r hi
          have hjl := (List.getElem?_eq_some_iff.1 hj).1
          have hv := List.getElem?_eq_getElem (l := cs') (i := j) (by rw [h5.len]; exact hjl)
          refine ⟨cs'[j]'(by rw [h5.len]; exact hjl), ?_, h5.one _ (List.getElem_mem _), h5.imm j _ d hv hj⟩
          rw [← Addr.add_add]
          exact (cells_get h1).2 j _ hv
        refine ⟨_, ⟨es, rfl, by omega, fun r hr => ?_⟩, by simp [hz], .one1 rfl (.lst (fun i j => match W.cell? (a.add (i * (tinfo tt e).size + j)) with
          | some v => if v.oneCell' then v else .nilFunc
          | none => .nilFunc) hesl hl hm (by simp) (fun r hr => ?_) (fun _ h => h) (fun hne => ?_) (fun i j => ?_) (fun i j r d hi hj => ?_) (fun i j r d hi hj => ?_))⟩
        · obtain ⟨i, hi, rfl⟩ := List.getElem_of_mem hr
          obtain ⟨_, _, h3, _⟩ := hes i _ (List.getElem?_eq_getElem hi)
          exact h3
        · obtain ⟨i, hi, rfl⟩ := List.getElem_of_mem hr
          obtain ⟨_, _, _, h3, _⟩ := hes i _ (List.getElem?_eq_getElem hi)
          exact h3
        · cases hes0 : es with
          | nil => exact absurd hes0 hne
          | cons r rr =>
            have h0 : es[0]? = some r := by rw [hes0]; rfl
            obtain ⟨_, _, _, h3, _⟩ := hes 0 r h0
            obtain ⟨v, hv, _⟩ := hcell 0 0 r _ h0 (List.getElem?_eq_getElem (by omega))
            have := cell_lt hv
            rwa [Addr.block_add] at this
        · split
          · split
            · assumption
            · rfl
          · rfl
        · obtain ⟨v, hv, h1, _⟩ := hcell i j r d hi hj
          simp only [hv, h1, if_true]
        · obtain ⟨v, hv, h1, h2⟩ := hcell i j r d hi hj
          simp only [hv, h1, if_true]
          exact h2
    · rename_i fs hk
      simp only [Bool.and_eq_true] at hs
      have hz : 0 < (tinfo tt t).size := Nat.le_of_ble_eq_true hs.1
      obtain ⟨F, hu, hF, _⟩ := tab_st hT hk
      obtain ⟨xs, m', rfl, rfl, hlen, hxl, hfi⟩ := DataW.trod_struct hu h
      rw [cellsOf_tab hT (by omega)] at hlen
      have key : ∀ (F : List Field) (fs : List (TypeId × Nat)), fsOk F fs = true → ∀ f ∈ fs, ∃ (i : Nat) (f' : Field), F[i]? = some f' ∧ f'.type = f.1 ∧ f'.offset = f.2 := by
        intro F
        induction F with
        | nil =>
          intro fs hF f hf
          cases fs with
          | nil => simp at hf
          | cons _ _ => simp [fsOk] at hF
        | cons f0 F ih =>
          intro fs hF f hf
          cases fs with
          | nil => simp at hf
          | cons g r =>
            simp only [fsOk, Bool.and_eq_true] at hF
            rcases List.mem_cons.1 hf with rfl | hf
            · exact ⟨0, f0, rfl, Nat.eq_of_beq_eq_true hF.1.1.1, Nat.eq_of_beq_eq_true hF.1.1.2⟩
            · obtain ⟨i, f', h1, h2⟩ := ih r hF.2 f hf
              exact ⟨i + 1, f', by simpa using h1, h2⟩
      obtain ⟨ds, h1, h2, h3⟩ := fields_ok (W := W) (g := Dat tt n) (gs := fun t => shutT tt n t && Nat.blt 0 (tinfo tt t).size) hlen fs 0 (fun f hf hg => by
        simp only [Bool.and_eq_true] at hg
        have hfz : 0 < (tinfo tt f.1).size := Nat.le_of_ble_eq_true hg.2
        obtain ⟨i, f', e1, e2, e3⟩ := key _ _ hF f hf
        have := hfi i f' (by simpa using e1)
        rw [e2, e3, cellsOf_tab hT (by omega)] at this
        have hil : i < xs.length := by rw [hxl]; have := (List.getElem?_eq_some_iff.1 e1).1; simpa using this
        rw [List.getElem?_eq_getElem hil] at this
        exact read_ok hT n f.1 m' _ _ this hg.1) (by
          have gen : ∀ (fs : List (TypeId × Nat)) (off : Nat), shutFs tt (shutT tt n) fs off (tinfo tt t).size = true → shutFs tt (fun t => shutT tt n t && Nat.blt 0 (tinfo tt t).size) fs off (tinfo tt t).size = true := by
            intro fs
            induction fs with
            | nil => exact fun _ h => h
            | cons f r ih =>
              intro off h
              simp only [shutFs, Bool.and_eq_true] at h ⊢
              exact ⟨⟨⟨h.1.1.1, h.1.1.2, h.1.2⟩, h.1.2⟩, ih _ h.2⟩
          exact gen fs 0 hs.2) (Nat.zero_le _)
      exact ⟨ds, h1, by omega, by simpa using h3⟩
    · cases hs

/-- a value of a type out of its cells -/
def argDV (tt : TT) (t : TypeId) (ds : List DV) : DV :=
  match (tinfo tt t).agg with
  | true => .agg ds
  | false => ds.headD .junk
def DatAll (tt : TT) (n : Nat) : List TypeId → List DV → Prop
  | [], ds => ds = []
  | t :: r, ds => ∃ a b, ds = argDV tt t a :: b ∧ Dat tt n t a ∧ DatAll tt n r b
theorem arg_ok (hT : tabOk P tt = true) {sp : Nat → Bool} {base b2 : Nat} {held : Bool} {n : Nat} {t : TypeId} {v : Value} {d : DataW H} {ps : List MemPlace} (hv : Value.okWide P W .any b2 t v) (h : DataW.Trod enc P W base sp held t v d ps) (hs : shutT tt n t = true) :
    ∃ ds, Dat tt n t ds ∧ Imm Nowhere W v (argDV tt t ds) := by
  obtain ⟨m, h⟩ := h
  obtain ⟨ds, h1, h2, h3⟩ := read_ok hT n t m _ _ h hs
  refine ⟨ds, h1, ?_⟩
  have one : v.cells = #[v] → v.oneCell' = true → (tinfo tt t).agg = false → (tinfo tt t).size = 1 → Imm Nowhere W v (argDV tt t ds) := by
    intro hc ho ha hz
    rw [hc] at h3
    rw [hz] at h2
    obtain ⟨d, rfl⟩ := List.length_eq_one_iff.1 h2
    unfold argDV
    rw [ha]
    exact h3.imm 0 v d rfl rfl
  cases n with
  | zero => simp [shutT] at hs
  | succ n =>
    have aggOf : ∀ {D : TypeDesc}, P.underlying t = some D → ((tinfo tt t).size ≠ 0 ∨ (tinfo tt t).k ≠ .other) → (tinfo tt t).agg = aggD D := by
      intro D hD hh
      obtain ⟨D', hD', _, ha⟩ := (tab_entry hT hh).kind
      rw [hD] at hD'
      cases hD'
      exact ha.symm
    unfold shutT at hs
    split at hs
    · rename_i k hk
      have hu := tab_int hT hk
      simp only [Value.okWide, hu, Cell.okWide] at hv
      cases v <;> first | exact one rfl rfl (aggOf hu (.inr (by rw [hk]; simp))) (Nat.eq_of_beq_eq_true hs) | (simp [Cell.ok, hu] at hv)
    · rename_i hk
      have hu := tab_bool hT hk
      simp only [Value.okWide, hu, Cell.okWide] at hv
      cases v <;> first | exact one rfl rfl (aggOf hu (.inr (by rw [hk]; simp))) (Nat.eq_of_beq_eq_true hs) | (simp [Cell.ok, hu] at hv)
    · rename_i hk
      have hu := tab_str hT hk
      simp only [Value.okWide, hu, Cell.okWide] at hv
      cases v <;> first | exact one rfl rfl (aggOf hu (.inr (by rw [hk]; simp))) (Nat.eq_of_beq_eq_true hs) | (simp [Cell.ok, hu] at hv)
    · rename_i e hk
      have hu := tab_slc hT hk
      simp only [Bool.and_eq_true] at hs
      obtain ⟨_, _, _, rfl⟩ := Go.WideShapes.okWide_slice hu hv
      exact one rfl rfl (aggOf hu (.inr (by rw [hk]; simp))) (Nat.eq_of_beq_eq_true hs.1.1)
    · rename_i fs hk
      obtain ⟨F, hu, _, ha⟩ := tab_st hT hk
      simp only [Value.okWide, hu] at hv
      obtain ⟨cs, rfl, _⟩ := hv
      unfold argDV
      rw [ha]
      obtain ⟨l, rfl⟩ : ∃ l : List Value, cs = l.toArray := ⟨cs.toList, by simp⟩
      exact .agg (by simpa [Value.cells] using h3.len) (fun v hv => h3.one v (by simpa [Value.cells] using hv)) (fun i v d hv hd => h3.imm i v d (by simpa [Value.cells] using hv) hd)
    · cases hs
theorem args_ok (hT : tabOk P tt = true) {sp : Nat → Bool} {base b2 : Nat} {held : Bool} {n : Nat} : ∀ {ts : List TypeId} {vs : List Value} {ds : List (DataW H)} {ps : List MemPlace}, (∀ (j : Nat) t v, ts[j]? = some t → vs[j]? = some v → Value.okWide P W .any b2 t v) →
    DataW.TrodAll enc P W base sp held ts vs ds ps → ts.all (shutT tt n) = true → ∃ dvs, DatAll tt n ts dvs ∧ ImmAll Nowhere W vs dvs ∧ ds.length = ts.length
  | [], [], [], ps, _, _, _ => ⟨[], rfl, trivial, rfl⟩
  | t :: ts, v :: vs, d :: ds, ps, hv, h, hs => by
    obtain ⟨p, q, h1, h2, _⟩ := h
    simp only [List.all_cons, Bool.and_eq_true] at hs
    obtain ⟨a, k1, k2⟩ := arg_ok hT (hv 0 t v rfl rfl) h1 hs.1
    obtain ⟨b, k3, k4, k5⟩ := args_ok hT (fun j t v h1 h2 => hv (j + 1) t v (by simpa using h1) (by simpa using h2)) h2 hs.2
    exact ⟨_, ⟨a, b, rfl, k1, k3⟩, ⟨k2, k4⟩, by simp [k5]⟩
  | [], [], _ :: _, ps, _, h, _ => h.elim
  | [], _ :: _, _, ps, _, h, _ => h.elim
  | _ :: _, [], _, ps, _, h, _ => h.elim
  | _ :: _, _ :: _, [], ps, _, h, _ => h.elim
theorem args_kept (hl : laidOutB P = true) {W' : World} (hb : Go.RowKit.Below W.heap.size W W') : ∀ {ts : List TypeId} {vs : List Value} {ds : List (DataW H)} {ps : List MemPlace}, ts.all (fun t => P.readableRec t && decide (t < P.types.size)) = true → (∀ x ∈ ps, x.block < W.heap.size) →
    DataW.TrodAll enc P W 0 (fun _ => true) true ts vs ds ps → DataW.TrodAll enc P W' 0 (fun b => decide (b < W.heap.size)) true ts vs ds ps
  | [], [], [], ps, _, _, h => h
  | t :: ts, v :: vs, d :: ds, ps, hr, hlt, h => by
    obtain ⟨p, q, h1, h2, rfl⟩ := h
    simp only [List.all_cons, Bool.and_eq_true, decide_eq_true_eq] at hr
    exact ⟨p, q, Go.RowKit.Below.trod hl hr.1.1 hr.1.2 h1 hb (fun x hx => hlt x (by simp [hx])), args_kept hl hb hr.2 (fun x hx => hlt x (by simp [hx])) h2, rfl⟩
  | [], [], _ :: _, ps, _, _, h => h.elim
  | [], _ :: _, _, ps, _, _, h => h.elim
  | _ :: _, [], _, ps, _, _, h => h.elim
  | _ :: _, _ :: _, [], ps, _, _, h => h.elim

/-- THE ROW's STEP: a law that answers true, whatever data it is given. -/
theorem law_end (hT : tabOk P tt = true) {f : FuncId} {fn : Func} {s : ChangeSpec} {base n : Nat} {t : TypeId} {args : Array Value} {ds gs : List (DataW H)} {before : List MemPlace}
    (hval : ∀ (j : Nat) t v, fn.params[j]? = some t → args[j]? = some v → Value.okWide P W .any base t v) (hW : DataW.Whole enc P fn.params.toList s.vars false W args.toList ds gs before)
    (hvars : s.vars = []) (hfn : ∀ ds : List (DataW H), ds.length = fn.params.size → s.fn H ds = { results := [.lit (.bool true)], args := ds, vars := [] }) (hres : fn.resultTypes = #[t]) (hbool : P.underlying t = some .bool)
    (hs : fn.params.toList.all (shutT tt n) = true) (hl : laidOutB P = true) (hr : fn.params.toList.all (fun t => P.readableRec t && decide (t < P.types.size)) = true)
    (hret : ∀ dvs, DatAll tt n fn.params.toList dvs → Ret P f dvs (.v (.bool true))) :
    Calls P f args W fun e W' => ∃ v, e = .returned v ∧ s.post enc P fn false true false false W args v W' := by
  obtain ⟨p, q, hA, hV, rfl, hfz, hnd⟩ := hW
  rw [hvars] at hV
  obtain ⟨dvs, h1, h2, h3⟩ := args_ok hT (fun j t v h1 h2 => hval j t v (by simpa using h1) (by simpa using h2)) hA hs
  have hcall := (hret dvs h1).2 Nowhere W args.toList (fun _ h => h.elim) h2
  refine hcall.mono fun e W' ⟨v, he, hi, hg⟩ => ⟨v, he, ?_⟩
  have hv := hi.v_inv
  subst hv
  obtain ⟨rfl, rfl⟩ : gs = [] ∧ q = [] := by
    cases gs with
    | nil => exact ⟨rfl, hV⟩
    | cons _ _ => exact hV.elim
  have hb : Go.RowKit.Below W.heap.size W W' := ⟨hg.os, hg.tape, hg.output, hg.size, fun k hk => hg.block k hk (by simp)⟩
  have hlt : ∀ x ∈ p, x.block < W.heap.size := hA.lt
  have hf := hfn ds (by rw [h3]; simp)
  refine ⟨ds, [], p ++ [], [], p, [], ⟨p, [], hA, by rw [hvars]; exact hV, rfl, hfz, hnd⟩, ?_, ?_, ?_, hb.frame _, fun h => by cases h⟩
  · rw [List.append_nil, hf, hres]
    refine ⟨[], [], ⟨1, ?_⟩, rfl, rfl⟩
    simp [Value.cells, DataW.trod, hbool]
  · rw [List.append_nil, hf]
    exact args_kept hl hb hr hlt hA
  · rw [List.append_nil, hf, hvars]
    rfl
end
end Go.Lift
