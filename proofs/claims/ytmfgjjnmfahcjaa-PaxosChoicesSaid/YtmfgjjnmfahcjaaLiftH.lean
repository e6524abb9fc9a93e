/- A data-level logic for the model: what a body does to data; its soundness (part LiftH). No conditions. -/
import Derived.Test.YtmfgjjnmfahcjaaLiftG
set_option linter.unusedSimpArgs false
set_option linter.unusedVariables false
namespace Go.Lift
open Go

/-! # Rows: literals, copy, stores into a row, cuts of a row -/
section
variable {P : Program} {tt : TT} {A0 : Nat → Prop} {w0 : Home} {n : Nat} {os : Objs} {s : DS} {a : Act} {w : World} {o : Oper} {K : DS → Prop} {A : Nat → Prop} {B : Nat}

theorem shutOps_ok : ∀ (l : List Operand) {os : Objs} {s : DS} {K : DS → Prop}, Rep A0 w0 n os s a w → shutOps s l K → ∃ os' s', Rep A0 w0 n os' s' a w ∧ K s'
  | [], os, s, K, h, hK => ⟨os, s, h, hK⟩
  | x :: r, os, s, K, h, hK => by
    obtain ⟨os', s', h', hK, _, _⟩ := shutIn_ok _ h (frc_iff.1 hK)
    exact shutOps_ok r h' hK

/-- cells laid over a row's element -/
theorem RowRep.set {cells cells' : List Value} {es : List (List DV)} {sz k off : Nat} {vs : List Value} {ed ds : List DV} (h : RowRep A w cells es sz) (hk : es[k]? = some ed) (hf : off + vs.length ≤ sz) (hvl : vs.length = ds.length) (hone : ∀ v ∈ vs, v.oneCell' = true)
    (hp : ∀ (i : Nat) v d, vs[i]? = some v → ds[i]? = some d → Imm A w v d) (hlen : cells'.length = cells.length) (hc : ∀ j, cells'[j]? = if k * sz + off ≤ j ∧ j < k * sz + off + vs.length then vs[j - (k * sz + off)]? else cells[j]?) :
    RowRep A w cells' (es.set k (dsplice ed off ds)) sz := by
  have hkl := (List.getElem?_eq_some_iff.1 hk).1
  have hel := h.rows _ (List.mem_of_getElem? hk)
  refine ⟨by rw [hlen, h.len]; simp, fun r hr => ?_, fun v hv => ?_, fun k' j r d hk' hj => ?_⟩
  · rcases List.mem_or_eq_of_mem_set hr with hr | rfl
    · exact h.rows r hr
    · rw [length_dsplice]; exact hel
  · obtain ⟨j, hj, rfl⟩ := List.getElem_of_mem hv
    have h1 := List.getElem?_eq_getElem hj
    rw [hc j] at h1
    split at h1
    · exact hone _ (List.mem_of_getElem? h1)
    · exact h.one _ (List.mem_of_getElem? h1)
  · by_cases e : k' = k
    · subst e
      rw [List.getElem?_set_self hkl] at hk'
      cases hk'
      have hjl := (List.getElem?_eq_some_iff.1 hj).1
      rw [length_dsplice] at hjl
      rw [get_dsplice _ _ _ _ (by omega)] at hj
      rw [hc]
      split at hj
      · rename_i c
        rw [if_pos (by omega)]
        have hjv : j - off < vs.length := by omega
        refine ⟨vs[j - off], ?_, hp _ _ d (List.getElem?_eq_getElem hjv) hj⟩
        rw [show k' * sz + j - (k' * sz + off) = j - off by omega]
        exact List.getElem?_eq_getElem hjv
      · rename_i c
        rw [if_neg (by omega)]
        exact h.rep k' j ed d hk hj
    · rw [List.getElem?_set_ne (fun e' => e e'.symm)] at hk'
      have hrl := h.rows _ (List.mem_of_getElem? hk')
      have hjl := (List.getElem?_eq_some_iff.1 hj).1
      rw [hc]
      rw [if_neg ?_]
      · exact h.rep k' j r d hk' hj
      · intro c
        rcases Nat.lt_or_gt_of_ne e with hlt | hlt
        · have h1 : (k' + 1) * sz ≤ k * sz := Nat.mul_le_mul_right _ (by omega)
          rw [Nat.add_mul] at h1
          omega
        · have h1 : (k + 1) * sz ≤ k' * sz := Nat.mul_le_mul_right _ (by omega)
          rw [Nat.add_mul] at h1
          omega
theorem elems_loop {ρ : Operand → DV} {size : Nat} {K : List (List DV) → Prop} (hpos : 0 < size) :
    ∀ (parts : List (Nat × Operand)) (es : List (List DV)) (cells : Array Value), RowRep A w cells.toList es size → (∀ p ∈ parts, RepV A os w (a.eval p.2) (ρ p.2)) → elemsK ρ size parts es K →
      ∃ cells' es', K es' ∧ Instr.fill (fun i => some (i * size, size)) cells (parts.map fun p => (p.1, a.eval p.2)) = some cells' ∧ RowRep A w cells'.toList es' size ∧ es'.length = es.length
  | [], es, cells, hr, _, h => ⟨cells, es, h, by simp [Instr.fill], hr, rfl⟩
  | (i, x) :: r, es, cells, hr, hx, h => by
    have hxx := hx (i, x) (by simp)
    have h := frc_iff.1 h
    split at h
    · rename_i hb
      simp only [Bool.and_eq_true] at hb
      obtain ⟨⟨b1, b2⟩, b3⟩ := hb
      have b1 := Nat.eq_of_beq_eq_true b1
      have b2 : i < es.length := Nat.le_of_ble_eq_true b2
      have hpl := plainAll_mem b3
      have hnw : ∀ b d', ρ x ≠ .wh b d' := by
        intro b d' e
        have := hpl (.wh b d') (by rw [e]; simp [dcells])
        simp [isPlain0] at this
      have hnt : ∀ l, ρ x ≠ .tup l := by
        intro l e
        have := hpl (.tup l) (by rw [e]; simp [dcells])
        simp [isPlain0] at this
      have hnj : ρ x ≠ .junk := by
        intro e
        have := hpl .junk (by rw [e]; simp [dcells])
        simp [isPlain0] at this
      obtain ⟨hl, hone, hp⟩ := RepV.cells hxx hnw hnt hnj
      have hsz : (a.eval x).cells.size = size := by rw [← b1, ← hl]; simp
      have hlc : cells.size = es.length * size := by rw [← hr.len]; simp
      have hin : (i + 1) * size ≤ es.length * size := Nat.mul_le_mul_right _ (by omega)
      rw [Nat.add_mul, Nat.one_mul] at hin
      have hed : es[i]? = some es[i] := List.getElem?_eq_getElem b2
      have hel := hr.rows _ (List.mem_of_getElem? hed)
      have hfold := fun j => (get_fold (a.eval x).cells.toList 0 (i * size) cells j (by rw [hlc, Array.length_toList, hsz]; omega)).1
      have hfs := (get_fold (a.eval x).cells.toList 0 (i * size) cells 0 (by rw [hlc, Array.length_toList, hsz]; omega)).2
      have hfeq : ((a.eval x).cells.zipIdx.foldl (fun (cs : Array Value) (p : Value × Nat) => cs.setIfInBounds (i * size + p.2) p.1) cells) = ((a.eval x).cells.toList.zipIdx 0).foldl (fun (cs : Array Value) (p : Value × Nat) => cs.setIfInBounds (i * size + p.2) p.1) cells := by
        rw [← Array.foldl_toList]
        simp
      have hspl : dsplice es[i] 0 (dcells (ρ x)) = dcells (ρ x) := by
        apply List.ext_getElem?
        intro j
        rw [get_dsplice _ _ _ _ (by rw [hel, b1]; omega)]
        split
        · simp
        · rename_i c
          rw [List.getElem?_eq_none (by rw [hel]; omega), List.getElem?_eq_none (by omega)]
      have hr' := hr.set (cells' := ((a.eval x).cells.zipIdx.foldl (fun (cs : Array Value) (p : Value × Nat) => cs.setIfInBounds (i * size + p.2) p.1) cells).toList) (off := 0) hed (by rw [Array.length_toList, hsz]; omega) hl hone
        (fun j v d hv hd => (RepV.plain (hp j v d hv hd) (hpl d (List.mem_of_getElem? hd))).2) (by rw [hfeq, Array.length_toList, Array.length_toList]; exact hfs) (fun j => by
          rw [hfeq, Array.getElem?_toList, hfold j]
          simp)
      rw [hspl] at hr'
      obtain ⟨cells', es', hK, hfill, hrep, hlen⟩ := elems_loop hpos r _ _ hr' (fun p hp => hx p (by simp [hp])) h
      refine ⟨cells', es', hK, ?_, hrep, by rw [hlen]; simp⟩
      simp only [List.map_cons, Instr.fill]
      rw [if_neg (by
        simp only [hsz, ne_eq, not_true_eq_false, decide_false, Bool.false_or, gt_iff_lt, decide_eq_true_eq, Bool.or_eq_true, or_false, false_or]
        omega)]
      exact hfill
    · exact h.elim

theorem buildSlice_ok (hT : tabOk P tt = true) {t e : TypeId} {m : Nat} {parts : Array (Nat × Operand)} {Q : Exit → Act → World → Prop} (ho : o.op = .buildSlice t m parts) (hk : (tinfo tt t).k = .slc e) (hs : (tinfo tt e).size ≠ 0) (hle : m * (tinfo tt e).size ≤ 16777216)
    (h : Rep A0 w0 n os s a w) (hd : ∀ t, o.dst = some t → t < n) (hK : elemsK (ev s) (tinfo tt e).size parts.toList (List.replicate m (tinfo tt e).zero) fun es => putK ⟨s.env, s.loc ++ [.row e (tinfo tt e).size es]⟩ o.dst (.own s.loc.length) K) : o.wp P a w (Nx A0 w0 n K) Q := by
  obtain ⟨i, hi, hsz, hby, z, hz, hzo, hzl⟩ := tab_size hT hs
  have hu := tab_slc hT hk
  obtain ⟨h1, h2, h3⟩ := zOk_all (A := avoid A0 os) (w := w) hzo
  have hcr : CellsRep (avoid A0 os) os w z.cells (tinfo tt e).zero := ⟨by simpa using h1, h2, fun i v d hv hd => .imm (h3 i v d (by simpa using hv) hd)⟩
  have hpos := Nat.pos_of_ne_zero hs
  have hrow := made_row (N := m) (m := m) hcr (fun i v d hv hd => h3 i v d (by simpa using hv) hd) (by omega) (Nat.le_refl _)
  rw [hzl] at hrow
  have hml : (madeCells z.cells (m * (tinfo tt e).size)).toList.length = m * (tinfo tt e).size := (Array.length_toList (xs := madeCells z.cells (m * (tinfo tt e).size))).trans (size_madeCells _ _)
  rw [List.take_of_length_le (by rw [hml]; exact Nat.le_refl _)] at hrow
  obtain ⟨cells', es', hK, hfill, hrep, hlen⟩ := elems_loop hpos parts.toList _ _ hrow (fun p _ => h.ev p.2) hK
  rw [List.length_replicate] at hlen
  have hcs : cells'.size = m * (tinfo tt e).size := by have := hrep.len; rw [hlen] at this; simpa using this
  have hm : m ≤ maxLen := by
    have h2 : m * 1 ≤ m * (tinfo tt e).size := Nat.mul_le_mul_left _ hpos
    simp only [maxLen]
    omega
  have hown := World.ownsRow_lit (base := 0) (e := e) (size := (tinfo tt e).size) w cells' m (Nat.zero_le _) hm hcs
  have hp := row_push (x := .slice (some ⟨w.heap.size, 0, none⟩) m m) (es := es') h (World.grownBy_alloc w (.cells cells' e) none) (fun b hb => by simp [blk] at hb; omega) (by rw [hlen]; exact hown) hpos hrep
  refine wp_value (x := .slice (some ⟨w.heap.size, 0, none⟩) m m) (w' := w.alloc (.cells cells' e)) ?_ (Nx.put hp hd (by rw [h.len]; exact .own last_obj rfl) hK)
  have hparts : (parts.map fun (i, x) => (i, a.eval x)).toList = parts.toList.map fun p => (p.1, a.eval p.2) := by cases parts; simp
  have hbig : ¬ (m * (tinfo tt e).size > 2 ^ 24) := by omega
  by_cases hz0 : m * (tinfo tt e).size = 0
  · have hfill0 : Instr.fill (fun i => some (i * (tinfo tt e).size, (tinfo tt e).size)) (madeCells #[] (m * (tinfo tt e).size)) (parts.toList.map fun p => (p.1, a.eval p.2)) = some cells' := by
      rw [← hfill]
      congr 1
      rw [hz0]
      simp [madeCells]
    simp only [execOp, ho, Instr.buildSlice, Sem.run_bind, run_underlying hu, Result.andThen_ok, run_sizeOf_tab hT hs, if_neg hbig, if_pos hz0, Sem.run_pure, hparts]
    simp only [madeCells] at hfill0
    simp only [hfill0, Sem.run_bind, newRow, run_newObj, Result.andThen_ok, Sem.run_pure, World.alloc_eq]
  · have hzr : (zeroValue e).run P w = .ok z w := by simp [zeroValue, typeInfo, hi, hz]
    simp only [madeCells] at hfill
    simp only [execOp, ho, Instr.buildSlice, Sem.run_bind, run_underlying hu, Result.andThen_ok, run_sizeOf_tab hT hs, if_neg hbig, if_neg hz0, hzr, Sem.run_pure, hparts]
    simp only [hfill, Sem.run_bind, newRow, run_newObj, Result.andThen_ok, Sem.run_pure, World.alloc_eq]

theorem alike_set {i : Nat} {x : Value} {ob ob' : LObj} (hi : os[i]? = some (x, ob)) (hk : kindIs ob ob') : Alike os (os.set i (x, ob')) := by
  intro j z o' hj
  by_cases e : j = i
  · subst e; rw [hi] at hj; cases hj
    exact ⟨_, List.getElem?_set_self (List.getElem?_eq_some_iff.1 hi).1, hk⟩
  · exact ⟨o', by rw [List.getElem?_set_ne (fun e' => e e'.symm)]; exact hj, by cases o' <;> simp [kindIs]⟩
theorem keeps_set {w' : World} {i : Nat} {x : Value} {ob ob' : LObj} (hi : os[i]? = some (x, ob)) (hd : ob ≠ .dead) (hg : w.grownBy w' (blk x)) : Keeps (avoid A0 os) (avoid A0 (os.set i (x, ob'))) w w' := by
  refine ⟨hg.size, fun b hb hv => ?_, fun b hb hn => hg.block b hb (fun e => hn (.inr ⟨i, _, _, hi, hd, e.symm⟩))⟩
  rcases hv with hv | ⟨j, z, o', hj, hdd, hbb⟩
  · exact .inl hv
  · by_cases e : j = i
    · subst e
      rw [List.getElem?_set_self (List.getElem?_eq_some_iff.1 hi).1] at hj
      cases hj
      exact .inr ⟨_, _, _, hi, hd, hbb⟩
    · rw [List.getElem?_set_ne (fun e' => e e'.symm)] at hj
      exact .inr ⟨j, z, o', hj, hdd, hbb⟩

theorem store_row_ok (hT : tabOk P tt = true) {t ty : TypeId} {x y : Operand} {i k off g m c sz : Nat} {es : List (List DV)} {ed : List DV} {d : DV} {Q : Exit → Act → World → Prop} (ho : o.op = .store t x y) (h : Rep A0 w0 n os s a w) (hd : ∀ t, o.dst = some t → t < n)
    (hs : (tinfo tt t).size ≠ 0) (hx : a.eval x = .pointer (some ⟨g, k * sz + off, none⟩)) (hi : os[i]? = some (.slice (some ⟨g, 0, none⟩) m c, .row ty sz es)) (e : ev s y = d) (hpl : plainAll (dcells d) = true) (hed : es[k]? = some ed)
    (hsz : (dcells d).length = (tinfo tt t).size) (hfit : off + (dcells d).length ≤ sz) (hK : putK ⟨s.env, lset s.loc i (.row ty sz (es.set k (dsplice ed off (dcells d))))⟩ o.dst (.wh false (.v (.bool false))) K) : o.wp P a w (Nx A0 w0 n K) Q := by
  have hpm := plainAll_mem hpl
  have hy := h.ev y
  rw [e] at hy
  have hnw : ∀ b d', d ≠ .wh b d' := by
    intro b d' e; subst e
    have := hpm (.wh b d') (by simp [dcells])
    simp [isPlain0] at this
  have hnt : ∀ l, d ≠ .tup l := by
    intro l e; subst e
    have := hpm (.tup l) (by simp [dcells])
    simp [isPlain0] at this
  have hnj : d ≠ .junk := by
    intro e; subst e
    have := hpm .junk (by simp [dcells])
    simp [isPlain0] at this
  obtain ⟨hl, hone, hp⟩ := hy.cells hnw hnt hnj
  obtain ⟨xs, hown, hszp, hr⟩ := obj_row (h.obj _ _ _ hi)
  rcases hown.2 with ⟨hv, _⟩ | ⟨g', cap, cur, hv, hB, hh, hnc, hcm, hcs, htake⟩
  · cases hv
  · cases hv
    have hl' : (a.eval y).cells.size = (dcells d).length := by simpa using hl
    have hkl := (List.getElem?_eq_some_iff.1 hed).1
    have h1 : (k + 1) * sz ≤ es.length * sz := Nat.mul_le_mul_right _ (by omega)
    rw [Nat.add_mul, Nat.one_mul] at h1
    have h2 : es.length * sz ≤ c * sz := Nat.mul_le_mul_right _ hnc
    have hfit' : k * sz + off + (a.eval y).cells.toList.length ≤ cur.toList.length := by simp only [Array.length_toList]; omega
    have hrun := store_run (P := P) (w := w) hT ho hs hx (by omega) hone hh (by omega)
    have hg : w.grownBy (w.setRow g (cur.toList.take (k * sz + off) ++ (a.eval y).cells.toList ++ cur.toList.drop (k * sz + off + (a.eval y).cells.toList.length)).toArray) (blk (.slice (some ⟨g, 0, none⟩) es.length c)) := setRow_grown
    refine wp_skip' hrun (Nx.put (os := os.set i (.slice (some ⟨g, 0, none⟩) es.length c, .row ty sz (es.set k (dsplice ed off (dcells d))))) (h.update hi (ob' := .row ty sz (es.set k (dsplice ed off (dcells d)))) ⟨rfl, rfl⟩ (by simp) (by simp) hg ?_) hd rep_gone hK)
    have hkeep := keeps_set (A0 := A0) (ob' := .row ty sz (es.set k (dsplice ed off (dcells d)))) hi (by simp) hg
    have hlenx : xs.length = es.length * sz := hown.1
    have hr' := hr.set (cells' := xs.take (k * sz + off) ++ (a.eval y).cells.toList ++ xs.drop (k * sz + off + (a.eval y).cells.toList.length)) (off := off) hed (by simp only [Array.length_toList]; omega) hl hone
      (fun j v d hv hd => (RepV.plain (hp j v d hv hd) (hpm d (List.mem_of_getElem? hd))).2) (lay_length (by simp only [Array.length_toList]; omega)) (fun j => get_lay (by simp only [Array.length_toList]; omega))
    refine row_obj (H := w0) (row_mine (h.obj _ _ _ hi)) (xs := xs.take (k * sz + off) ++ (a.eval y).cells.toList ++ xs.drop (k * sz + off + (a.eval y).cells.toList.length)) ⟨by rw [hr'.len], .inr ⟨g, c, _, by rw [List.length_set], hB, setRow_heap w g cur _ ty _ hh, by rw [List.length_set]; exact hnc, hcm, ?_, ?_⟩⟩ hszp (hr'.keep hkeep)
    · rw [List.size_toArray, lay_length hfit']
      simpa using hcs
    · rw [List.length_set]
      apply List.ext_getElem?
      intro j
      have hxl : ∀ j, j < es.length * sz → xs[j]? = cur.toList[j]? := by
        intro j hj
        rw [← htake, List.getElem?_take, if_pos hj]
      rw [get_lay (by simp only [Array.length_toList]; omega), List.getElem?_take]
      split
      · rename_i hj
        simp only []
        rw [get_lay hfit']
        split
        · rfl
        · exact (hxl j hj).symm
      · rename_i hj
        rw [if_neg (by simp only [Array.length_toList]; omega), List.getElem?_eq_none (by omega)]

/-! ## copy -/
theorem copy_run (hT : tabOk P tt = true) {t ty e : TypeId} (hk : (tinfo tt t).k = .slc e) (hs : (tinfo tt e).size ≠ 0) {g dl dc sl c : Nat} {ad : Addr} {cur : Array Value} {T : TypeId} {cs : List Value} (hg : w.heap[g]? = some (.cells cur T (0, 0)))
    (hn : cs.length = Nat.min sl dl * (tinfo tt e).size) (hsrc : ∀ (j : Nat) v, cs[j]? = some v → w.cell? (ad.add j) = some v) (hfit : cs.length ≤ cur.size) (h1 : ∀ v ∈ cs, v.oneCell' = true) :
    (Builtin.copy_ #[t, t] ty #[.slice (some ⟨g, 0, none⟩) dl dc, .slice (some ad) sl c]).run P w = .ok (.int .i64 (Nat.min sl dl : Nat)) (w.setRow g (cs ++ cur.toList.drop cs.length).toArray) := by
  have hu := tab_slc hT hk
  have hl := run_loadCells_list (P := P) w ad cs hsrc
  rw [hn] at hl
  have hst := run_storeCells_at P g 0 T cs 0 cur w hg (by simpa using hfit) h1
  simp only [Nat.zero_add, Nat.add_zero, List.take_zero, List.nil_append] at hst
  simp [Builtin.copy_, run_underlying hu, Builtin.lenOf, Builtin.firstCells, run_sizeOf_tab hT hs, hl, hst, goInt]
theorem copy_exec {t t' : TypeId} {x y : Operand} {args : Array Operand} {ats : Array TypeId} (ho : o.op = .call { callee := .builtin .copy, args := args, argTypes := ats }) (ha : args.toList = [x, y]) (hat : ats.toList = [t, t']) (htt : t = t') {r : Value} {w' : World}
    (hr : (Builtin.copy_ #[t, t] o.type #[a.eval x, a.eval y]).run P w = .ok r w') : (execOp a.eval o).run P w = .ok (.value r) w' := by
  obtain rfl : args = #[x, y] := by cases args; simp at ha; simp [ha]
  subst htt
  obtain rfl : ats = #[t, t] := by cases ats; simp at hat; simp [hat]
  simp only [execOp, ho, resolve, invoke, builtin, Sem.run_bind, Sem.run_pure, Result.andThen_ok, List.map_toArray, List.map_cons, List.map_nil, hr]
theorem copy_zero (hT : tabOk P tt = true) {t ty e : TypeId} (hk : (tinfo tt t).k = .slc e) (hs : (tinfo tt e).size ≠ 0) {ad ad' : Option Addr} {dl dc sl c : Nat} (hz : Nat.min sl dl = 0) :
    (Builtin.copy_ #[t, t] ty #[.slice ad dl dc, .slice ad' sl c]).run P w = .ok (.int .i64 (Nat.min sl dl : Nat)) w := by
  have hu := tab_slc hT hk
  cases ad <;> cases ad' <;> simp [Builtin.copy_, run_underlying hu, Builtin.lenOf, Builtin.firstCells, run_sizeOf_tab hT hs, hz, goInt, storeCells, loadCells, loadCellsFrom]
theorem copy_ok (hT : tabOk P tt = true) {t t' e : TypeId} {x y : Operand} {args : Array Operand} {ats : Array TypeId} {Q : Exit → Act → World → Prop} (ho : o.op = .call { callee := .builtin .copy, args := args, argTypes := ats }) (ha : args.toList = [x, y]) (hat : ats.toList = [t, t']) (htt : t = t')
    (hk : (tinfo tt t).k = .slc e) (hs : (tinfo tt e).size ≠ 0) (h : Rep A0 w0 n os s a w) (hd : ∀ t, o.dst = some t → t < n) (hK : dCopy tt e s o.dst (ev s x) (ev s y) K) : o.wp P a w (Nx A0 w0 n K) Q := by
  unfold dCopy at hK
  rw [h.loc] at hK
  obtain ⟨ys, sm, hK, hy⟩ := news_elim hs h.obj (h.ev y) hK
  have hx := h.ev x
  have hpos := Nat.pos_of_ne_zero hs
  have exec := fun {r : Value} {w' : World} => copy_exec (P := P) (w := w) (a := a) (r := r) (w' := w') ho ha hat htt
  have hyz : ∃ ad' c', a.eval y = .slice ad' ys.length c' := by
    rcases hy with ⟨hyv, rfl⟩ | ⟨ad, c, news, hyv, _⟩
    · exact ⟨_, _, hyv⟩
    · exact ⟨_, _, hyv⟩
  split at hK
  · rename_i ex
    rw [ex] at hx
    have hxv := hx.nl_inv
    obtain ⟨ad', c', hyv⟩ := hyz
    have hrun := copy_zero (P := P) (w := w) (ty := o.type) hT hk hs (ad := none) (ad' := ad') (dl := 0) (dc := 0) (sl := ys.length) (c := c') (by simp [Nat.min])
    have hm0 : Nat.min ys.length 0 = 0 := by simp [Nat.min]
    rw [hm0] at hrun
    exact wp_value (exec (by rw [hxv, hyv]; exact hrun)) (Nx.put h hd (.imm (.v rfl)) hK)
  · rename_i i ex
    rw [ex] at hx
    split at hK
    · rename_i e3 sz3 es3 hl
      split at hK
      · rename_i hb
        simp only [Bool.and_eq_true] at hb
        have hb1 := Nat.eq_of_beq_eq_true hb.1
        have hb2 := Nat.eq_of_beq_eq_true hb.2
        obtain ⟨x', hi⟩ := lget_os hl (by simp)
        have hxe := hx.own_row hi
        subst hxe
        subst hb1
        subst hb2
        rw [← h.loc] at hK
        obtain ⟨xs, hown, _, hrr⟩ := obj_row (h.obj _ _ _ hi)
        by_cases hz : Nat.min ys.length es3.length = 0
        · obtain ⟨ad', c', hyv⟩ := hyz
          have hxs : ∃ ad c, a.eval x = .slice ad es3.length c := by
            rcases own_cells hown with ⟨hv, rfl, _⟩ | ⟨g, cc, hv, _⟩
            · exact ⟨_, _, hv⟩
            · exact ⟨_, _, hv⟩
          obtain ⟨ad, c, hxv⟩ := hxs
          have hrun := copy_zero (P := P) (w := w) (ty := o.type) hT hk hs (ad := ad) (dc := c) (ad' := ad') (c := c') hz
          have heq : ys.take es3.length ++ es3.drop ys.length = es3 := by
            have : ys.length = 0 ∨ es3.length = 0 := by simp only [Nat.min_def] at hz; split at hz <;> omega
            rcases this with h0 | h0
            · have := List.eq_nil_of_length_eq_zero h0
              subst this
              simp
            · have := List.eq_nil_of_length_eq_zero h0
              subst this
              simp
          rw [heq] at hK
          refine wp_value (exec (by rw [hxv, hyv]; exact hrun)) (Nx.put (os := os) (s := ⟨s.env, lset s.loc i (.row e3 (tinfo tt e3).size es3)⟩) ?_ hd (.imm (.v rfl)) hK)
          have hself : lset s.loc i (.row e3 (tinfo tt e3).size es3) = s.loc := by
            rw [lset_eq, h.loc]
            apply List.ext_getElem?
            intro j
            by_cases e : j = i
            · subst e
              rw [List.getElem?_set_self (by simpa using (List.getElem?_eq_some_iff.1 hi).1), List.getElem?_map, hi]
              rfl
            · rw [List.getElem?_set_ne (fun e' => e e'.symm)]
          rw [hself]
          exact h
        · rcases hy with ⟨hyv, rfl⟩ | ⟨ad, c, news, hyv, hr, hc⟩
          · simp [Nat.min] at hz
          · rcases hown.2 with ⟨hv, hn0⟩ | ⟨g, cap, cur, hv, hB, hh, hnc, hcm, hcs, htake⟩
            · rw [hn0] at hz
              simp [Nat.min] at hz
            · have hmin : Nat.min ys.length es3.length * (tinfo tt e3).size ≤ news.length := by rw [hr.len]; exact Nat.mul_le_mul_right _ (Nat.min_le_left _ _)
              have hmin2 : Nat.min ys.length es3.length * (tinfo tt e3).size ≤ es3.length * (tinfo tt e3).size := Nat.mul_le_mul_right _ (Nat.min_le_right _ _)
              have hcap : es3.length * (tinfo tt e3).size ≤ cap * (tinfo tt e3).size := Nat.mul_le_mul_right _ hnc
              have hcl : (news.take (Nat.min ys.length es3.length * (tinfo tt e3).size)).length = Nat.min ys.length es3.length * (tinfo tt e3).size := by simp; omega
              have hrun := copy_run (P := P) (w := w) (ty := o.type) (dl := es3.length) (dc := cap) (sl := ys.length) (c := c) (ad := ad) hT hk hs hh (cs := news.take (Nat.min ys.length es3.length * (tinfo tt e3).size)) hcl
                (fun j v hj => hc j v (by rw [List.getElem?_take] at hj; split at hj; exact hj; cases hj)) (by rw [hcl, hcs]; omega) (fun v hv => hr.one v (List.mem_of_mem_take hv))
              have hi2 := hi
              rw [hv] at hi2
              have hg : w.grownBy (w.setRow g (news.take (Nat.min ys.length es3.length * (tinfo tt e3).size) ++ cur.toList.drop (news.take (Nat.min ys.length es3.length * (tinfo tt e3).size)).length).toArray) (blk (.slice (some ⟨g, 0, none⟩) es3.length cap)) := setRow_grown
              refine wp_value (exec (by rw [hv, hyv]; exact hrun)) (Nx.put (os := os.set i (.slice (some ⟨g, 0, none⟩) es3.length cap, .row e3 (tinfo tt e3).size (ys.take es3.length ++ es3.drop ys.length))) (h.update hi2 (ob' := .row e3 (tinfo tt e3).size (ys.take es3.length ++ es3.drop ys.length)) ⟨rfl, rfl⟩ (by simp) (by simp) hg ?_) hd (.imm (.v rfl)) hK)
              have hkeep := keeps_set (A0 := A0) (ob' := .row e3 (tinfo tt e3).size (ys.take es3.length ++ es3.drop ys.length)) hi2 (by simp) hg
              have hlen : (ys.take es3.length ++ es3.drop ys.length).length = es3.length := by simp; omega
              have hpart : ∀ {zs : List Value} {fs : List (List DV)} {q : Nat}, RowRep (avoid A0 os) w zs fs (tinfo tt e3).size → RowRep (avoid A0 os) w (zs.take (q * (tinfo tt e3).size)) (fs.take q) (tinfo tt e3).size := by
                intro zs fs q hz
                refine ⟨?_, fun r hr => hz.rows r (List.mem_of_mem_take hr), fun v hv => hz.one v (List.mem_of_mem_take hv), fun k j r d hk hj => ?_⟩
                · rw [List.length_take, List.length_take, hz.len]
                  simp only [Nat.min_def]
                  split
                  · rename_i hh
                    rw [if_pos (Nat.le_of_mul_le_mul_right hh hpos)]
                  · rename_i hh
                    rw [if_neg (fun h2 => hh (Nat.mul_le_mul_right _ h2))]
                · rw [List.getElem?_take] at hk
                  split at hk
                  · rename_i hkq
                    obtain ⟨v, hv, hi⟩ := hz.rep k j r d hk hj
                    have hrl := hz.rows _ (List.mem_of_getElem? hk)
                    have hjl := (List.getElem?_eq_some_iff.1 hj).1
                    have h5 : (k + 1) * (tinfo tt e3).size ≤ q * (tinfo tt e3).size := Nat.mul_le_mul_right _ (by omega)
                    rw [Nat.add_mul, Nat.one_mul] at h5
                    refine ⟨v, ?_, hi⟩
                    rw [List.getElem?_take, if_pos (by omega)]
                    exact hv
                  · cases hk
              have hrest : ∀ {zs : List Value} {fs : List (List DV)} {q : Nat}, RowRep (avoid A0 os) w zs fs (tinfo tt e3).size → RowRep (avoid A0 os) w (zs.drop (q * (tinfo tt e3).size)) (fs.drop q) (tinfo tt e3).size := by
                intro zs fs q hz
                refine ⟨by rw [List.length_drop, List.length_drop, hz.len, Nat.sub_mul], fun r hr => hz.rows r (List.mem_of_mem_drop hr), fun v hv => hz.one v (List.mem_of_mem_drop hv), fun k j r d hk hj => ?_⟩
                rw [List.getElem?_drop] at hk
                obtain ⟨v, hv, hi⟩ := hz.rep _ j r d hk hj
                refine ⟨v, ?_, hi⟩
                rw [List.getElem?_drop, ← hv]
                congr 1
                rw [Nat.add_mul]
                omega
              have hmr := (hpart (q := Nat.min ys.length es3.length) hr).append (hrest (q := ys.length) hrr)
              have e1 : ys.take (Nat.min ys.length es3.length) = ys.take es3.length := by
                simp only [Nat.min_def]
                split
                · rename_i hle
                  rw [List.take_of_length_le (Nat.le_refl _), List.take_of_length_le hle]
                · rfl
              rw [e1] at hmr
              refine row_obj (H := w0) (row_mine (h.obj _ _ _ hi2)) (xs := news.take (Nat.min ys.length es3.length * (tinfo tt e3).size) ++ xs.drop (ys.length * (tinfo tt e3).size)) ⟨by rw [hmr.len], .inr ⟨g, cap, _, by rw [hlen], hB, setRow_heap w g cur _ e3 _ hh, by rw [hlen]; exact hnc, hcm, ?_, ?_⟩⟩ hpos (hmr.keep hkeep)
              · have hcl2 : cur.toList.length = cap * (tinfo tt e3).size := (Array.length_toList (xs := cur)).trans hcs
                rw [List.size_toArray, List.length_append, hcl, List.length_drop, hcl2]
                omega
              · rw [hlen]
                simp only []
                rw [hcl]
                have hxl : xs.length = es3.length * (tinfo tt e3).size := hown.1
                rw [List.take_append, hcl]
                rw [List.take_of_length_le (by rw [hcl]; exact hmin2)]
                congr 1
                apply List.ext_getElem?
                intro j
                rw [List.getElem?_take, List.getElem?_drop, List.getElem?_drop]
                have hxj : ∀ q, xs[q]? = if q < es3.length * (tinfo tt e3).size then cur.toList[q]? else none := by
                  intro q
                  rw [← htake, List.getElem?_take]
                rw [hxj]
                by_cases hle : ys.length ≤ es3.length
                · have h6 : Nat.min ys.length es3.length = ys.length := Nat.min_eq_left hle
                  rw [h6]
                  have h7 : ys.length * (tinfo tt e3).size ≤ es3.length * (tinfo tt e3).size := Nat.mul_le_mul_right _ hle
                  by_cases hj : j < es3.length * (tinfo tt e3).size - ys.length * (tinfo tt e3).size
                  · rw [if_pos hj, if_pos (by omega)]
                  · rw [if_neg hj, if_neg (by omega)]
                · have h6 : Nat.min ys.length es3.length = es3.length := Nat.min_eq_right (by omega)
                  rw [h6]
                  have h7 : es3.length * (tinfo tt e3).size ≤ ys.length * (tinfo tt e3).size := Nat.mul_le_mul_right _ (by omega)
                  rw [if_neg (by omega), if_neg (by omega)]
      · exact hK.elim
    · exact hK.elim
  · exact hK.elim
end
end Go.Lift
