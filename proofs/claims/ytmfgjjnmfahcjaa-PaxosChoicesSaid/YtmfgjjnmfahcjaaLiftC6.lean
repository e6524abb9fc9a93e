/- A data-level logic for the model: what a body does to data; its soundness (part LiftC6). No conditions. -/
import Derived.Test.YtmfgjjnmfahcjaaLiftC5
set_option linter.unusedSimpArgs false
set_option linter.unusedVariables false
namespace Go.Lift
open Go
section
variable {P : Program} {tt : TT} {A : Nat → Prop} {os : Objs} {B : Home} {w : World} {a : Act} {o : Oper} {ρ : Operand → DV}

theorem len_ok (hT : tabOk P tt = true) (hO : ObjsOk A os B w) {t : TypeId} {x : Operand} {args : Array Operand} {ats : Array TypeId} {K : Option Prop → DV → Prop} (ho : o.op = .call { callee := .builtin .len, args := args, argTypes := ats })
    (ha : args.toList = [x]) (hat : ats.toList = [t]) (hx : Has A os w a ρ x) (h : dLen tt (os.map (·.2)) t (ρ x) K) : GivesSome P A os w a o K := by
  obtain rfl : args = #[x] := by cases args; simp at ha; simp [ha]
  obtain rfl : ats = #[t] := by cases ats; simp at hat; simp [hat]
  have fin : ∀ {n : Nat}, (Builtin.len_ #[t] o.type #[a.eval x]).run P w = .ok (.int .i64 n) w → K none (.v (.int .i64 n)) → GivesSome P A os w a o K := by
    intro n hr hK
    refine ⟨_, _, hK, fun _ => ⟨_, ?_, .imm (.v rfl)⟩⟩
    simp only [execOp, ho, resolve, invoke, builtin, Sem.run_bind, Sem.run_pure, Result.andThen_ok, List.map_toArray, List.map_cons, List.map_nil, hr]
  unfold dLen at h
  split at h
  · rename_i e hk
    have hu := tab_slc hT hk
    have run : ∀ ad n c, (Builtin.len_ #[t] o.type #[.slice ad n c]).run P w = .ok (.int .i64 n) w := by
      intro ad n c
      simp [Builtin.len_, run_underlying hu, goInt]
    unfold Has at hx
    split at h
    · rename_i sz es f ex
      rw [ex] at hx
      have hi := hx.lst_inv
      generalize hy : a.eval x = y at hi
      cases hi with
      | lst xs hn => exact fin (by rw [hy, run, hn]) h
      | nil => exact fin (n := 0) (by rw [hy, run]) h
    · rename_i ex
      rw [ex] at hx
      exact fin (n := 0) (by rw [hx.nl_inv, run]) h
    · rename_i j ex
      split at h
      · rename_i e2 sz es hl
        rw [ex] at hx
        obtain ⟨x', ho'⟩ := lget_os hl (by simp)
        have hxe := hx.own_row ho'
        subst hxe
        obtain ⟨_, xs, hown, _⟩ := hO _ _ _ ho'
        rcases hown.2 with ⟨hv, hn⟩ | ⟨g, cap, cur, hv, _⟩
        · exact fin (by rw [hv, run]; simp [hn]) h
        · exact fin (by rw [hv, run]) h
      · exact h.elim
    · exact h.elim
  · rename_i hk
    have hu := tab_str hT hk
    split at h
    · rename_i s ex
      exact fin (by rw [hx.v ex]; simp [Builtin.len_, run_underlying hu, goInt]) h
    · exact h.elim
  · rename_i n e hk
    have hu := tab_arr hT hk
    exact fin (by simp [Builtin.len_, run_underlying hu, goInt]) h
  · exact h.elim

theorem min_ok {x y : Operand} {args : Array Operand} {ats : Array TypeId} {K : Option Prop → DV → Prop} (ho : o.op = .call { callee := .builtin .min, args := args, argTypes := ats })
    (ha : args.toList = [x, y]) (hx : Has A os w a ρ x) (hy : Has A os w a ρ y) (h : dMin (ρ x) (ρ y) K) : GivesSome P A os w a o K := by
  obtain rfl : args = #[x, y] := by cases args; simp at ha; simp [ha]
  unfold dMin at h
  split at h
  · rename_i k p k' q e1 e2
    refine ⟨_, _, h, fun _ => ⟨_, ?_, .imm (.v rfl)⟩⟩
    simp only [execOp, ho, resolve, invoke, builtin, Sem.run_bind, Sem.run_pure, Result.andThen_ok, List.map_toArray, List.map_cons, List.map_nil, hx.v e1, hy.v e2, run_min_int2]
  · exact h.elim
theorem max_ok {x y : Operand} {args : Array Operand} {ats : Array TypeId} {K : Option Prop → DV → Prop} (ho : o.op = .call { callee := .builtin .max, args := args, argTypes := ats })
    (ha : args.toList = [x, y]) (hx : Has A os w a ρ x) (hy : Has A os w a ρ y) (h : dMax (ρ x) (ρ y) K) : GivesSome P A os w a o K := by
  obtain rfl : args = #[x, y] := by cases args; simp at ha; simp [ha]
  unfold dMax at h
  split at h
  · rename_i k p k' q e1 e2
    refine ⟨_, _, h, fun _ => ⟨_, ?_, .imm (.v rfl)⟩⟩
    simp only [execOp, ho, resolve, invoke, builtin, Sem.run_bind, Sem.run_pure, Result.andThen_ok, List.map_toArray, List.map_cons, List.map_nil, hx.v e1, hy.v e2, run_max_int2, GT.gt]
  · exact h.elim

theorem evL_elim : ∀ {l : List Operand} {K : List DV → Prop}, evL ρ l K → K (l.map ρ)
  | [], K, h => h
  | x :: r, K, h => by
    have := evL_elim (frc_iff.1 h)
    simpa using this
theorem RepV.plain {d : DV} {x : Value} (h : RepV A os w x d) (hp : isPlain0 d = true) : x.oneCell' = true ∧ Imm A w x d := by
  cases d <;> simp only [isPlain0, List.all_eq_true, Bool.false_eq_true] at hp
  all_goals try exact hp.elim
  · obtain ⟨rfl, h1⟩ := h.v_inv; exact ⟨h1, .v h1⟩
  · have h' := h.lst_inv
    refine ⟨?_, h'⟩
    cases h' <;> rfl
  · have hp0 := hp
    clear hp
    obtain ⟨vs, rfl, hl, hp⟩ := h.fn_inv
    refine ⟨rfl, .fn hl (fun i v d hv hd => ?_)⟩
    have hc := hp i v d hv hd
    have hpc := hp0 d (List.mem_of_getElem? hd)
    cases d <;> simp [plainCap] at hpc
    · obtain ⟨rfl, h1⟩ := hc.v_inv; exact .v h1
    · exact hc.lst_inv
    · exact hc.ip_inv
    · rename_i g caps
      have : caps = [] := by cases caps <;> simp_all [plainCap]
      subst this
      obtain ⟨us, rfl, hl2, _⟩ := hc.fn_inv
      have : us = [] := List.eq_nil_of_length_eq_zero (by simpa using hl2)
      subst this
      exact .fn (vs := []) rfl (by simp)
    · rw [hc.nl_inv]; exact .nl
  · rw [h.nl_inv]; exact ⟨rfl, .nl⟩
theorem plainAll_mem : ∀ {l : List DV}, plainAll l = true → ∀ d ∈ l, isPlain0 d = true
  | [], _, d, hd => by simp at hd
  | x :: r, h, d, hd => by
    unfold plainAll at h
    split at h
    · rename_i hx
      rcases List.mem_cons.1 hd with rfl | hd
      · exact hx
      · exact plainAll_mem h d hd
    · exact absurd h (by simp)
theorem plainRows_mem : ∀ {l : List (List DV)}, plainRows l = true → ∀ d ∈ l, plainAll d = true
  | [], _, d, hd => by simp at hd
  | x :: r, h, d, hd => by
    unfold plainRows at h
    split at h
    · rename_i hx
      rcases List.mem_cons.1 hd with rfl | hd
      · exact hx
      · exact plainRows_mem h d hd
    · exact absurd h (by simp)
theorem makeFunc_ok {f : Fn} {first caps : Array Operand} {K : Option Prop → DV → Prop} (ho : o.op = .makeFunc f first caps) (hf : first.toList = [])
    (hx : ∀ x ∈ caps.toList, Has A os w a ρ x) (h : evL ρ caps.toList fun l => match l.all isCap with
      | true => K none (.fn f l)
      | false => False) : GivesSome P A os w a o K := by
  obtain rfl : first = #[] := by cases first; simp at hf; simp [hf]
  have h := evL_elim h
  split at h
  · rename_i hpl
    have hm := List.all_eq_true.1 hpl
    refine ⟨_, _, h, fun _ => ⟨.func f #[] (caps.map a.eval), ?_, ?_⟩⟩
    · simp [execOp, ho, Instr.makeFunc]
    · have : caps.map a.eval = (caps.toList.map a.eval).toArray := by cases caps; simp
      rw [this]
      refine .fn (by simp) hm (fun i v d hv hd => ?_)
      rw [List.getElem?_map] at hv hd
      cases hc : caps.toList[i]? with
      | none => rw [hc] at hv; cases hv
      | some x =>
        rw [hc] at hv hd
        simp at hv hd
        subst hv hd
        exact hx x (List.mem_of_getElem? hc)
  · exact h.elim

/-! ## 'build' -/
theorem get_fold : ∀ (vs : List Value) (k off : Nat) (cells : Array Value) (i : Nat), off + k + vs.length ≤ cells.size →
    ((vs.zipIdx k).foldl (fun (cs : Array Value) (p : Value × Nat) => cs.setIfInBounds (off + p.2) p.1) cells)[i]? = (if off + k ≤ i ∧ i < off + k + vs.length then vs[i - (off + k)]? else cells[i]?) ∧
    ((vs.zipIdx k).foldl (fun (cs : Array Value) (p : Value × Nat) => cs.setIfInBounds (off + p.2) p.1) cells).size = cells.size
  | [], k, off, cells, i, _ => by
    refine ⟨?_, by simp⟩
    rw [if_neg (by simp only [List.length_nil]; omega)]
    simp
  | v :: r, k, off, cells, i, h => by
    simp only [List.length_cons] at h
    obtain ⟨h1, h2⟩ := get_fold r (k + 1) off (cells.setIfInBounds (off + k) v) i (by simp; omega)
    simp only [List.zipIdx_cons, List.foldl_cons]
    refine ⟨h1.trans ?_, by simpa using h2⟩
    by_cases c1 : off + (k + 1) ≤ i ∧ i < off + (k + 1) + r.length
    · rw [if_pos c1, if_pos (by simp; omega)]
      rw [show i - (off + k) = (i - (off + (k + 1))) + 1 by omega]
      simp
    · rw [if_neg c1]
      by_cases c2 : i = off + k
      · subst c2
        rw [if_pos (by simp)]
        simp [Array.getElem?_setIfInBounds]
        omega
      · rw [if_neg (by simp; omega), Array.getElem?_setIfInBounds_ne (by omega)]

structure CellsRep (A : Nat → Prop) (os : Objs) (w : World) (cells : Array Value) (cs : List DV) : Prop where
  size : cells.size = cs.length
  one : ∀ v ∈ cells.toList, v.oneCell' = true
  rep : ∀ (i : Nat) v d, cells[i]? = some v → cs[i]? = some d → RepV A os w v d
theorem build_loop {place : Nat → Nat × Nat} {pl : Nat → Option (Nat × Nat)} (hpl : ∀ i, (place i).2 ≠ 0 → pl i = some (place i)) {K : List DV → Prop} :
    ∀ (parts : List (Nat × Operand)) (cs : List DV) (cells : Array Value), CellsRep A os w cells cs → (∀ p ∈ parts, Has A os w a ρ p.2) → buildK ρ place parts cs K →
      ∃ cells' cs', K cs' ∧ Instr.fill pl cells (parts.map fun p => (p.1, a.eval p.2)) = some cells' ∧ CellsRep A os w cells' cs'
  | [], cs, cells, hr, _, h => ⟨cells, cs, h, by simp [Instr.fill], hr⟩
  | (i, x) :: r, cs, cells, hr, hx, h => by
    have hxx := hx (i, x) (by simp)
    have h := frc_iff.1 h
    unfold Has at hxx
    have key : ∀ (d : DV), ρ x = d → (∀ b d', d ≠ .wh b d') → (∀ l, d ≠ .tup l) → d ≠ .junk →
        (match Nat.beq (dcells d).length (place i).2 && Nat.ble ((place i).1 + (dcells d).length) cs.length && Nat.blt 0 (place i).2 with
          | true => buildK ρ place r (dsplice cs (place i).1 (dcells d)) K
          | false => False) → ∃ cells' cs', K cs' ∧ Instr.fill pl cells (((i, x) :: r).map fun p => (p.1, a.eval p.2)) = some cells' ∧ CellsRep A os w cells' cs' := by
      intro d e h1 h2 h3 hm
      split at hm
      · rename_i hb
        simp only [Bool.and_eq_true] at hb
        obtain ⟨⟨b1, b2⟩, b3⟩ := hb
        have b1 := Nat.eq_of_beq_eq_true b1
        have b2 := Nat.le_of_ble_eq_true b2
        have b3 : 0 < (place i).2 := Nat.le_of_ble_eq_true b3
        rw [e] at hxx
        obtain ⟨hl, hone, hp⟩ := hxx.cells h1 h2 h3
        have hsz : (a.eval x).cells.size = (place i).2 := by rw [← b1, ← hl]; simp
        have hfit : (place i).1 + 0 + (a.eval x).cells.toList.length ≤ cells.size := by
          rw [hr.size]
          simp only [Array.length_toList] at hl ⊢
          omega
        have hf : ∀ j, ((a.eval x).cells.zipIdx.foldl (fun (cs : Array Value) (p : Value × Nat) => cs.setIfInBounds ((place i).1 + p.2) p.1) cells)[j]? = (if (place i).1 ≤ j ∧ j < (place i).1 + (a.eval x).cells.toList.length then (a.eval x).cells.toList[j - (place i).1]? else cells[j]?) := by
          intro j
          have := (get_fold (a.eval x).cells.toList 0 (place i).1 cells j hfit).1
          simp only [Nat.add_zero] at this
          rw [← this]
          rw [← Array.foldl_toList]
          simp
        have hsf : ((a.eval x).cells.zipIdx.foldl (fun (cs : Array Value) (p : Value × Nat) => cs.setIfInBounds ((place i).1 + p.2) p.1) cells).size = cells.size := by
          have := (get_fold (a.eval x).cells.toList 0 (place i).1 cells 0 hfit).2
          rw [← this]
          rw [← Array.foldl_toList]
          simp
        have hlc : (a.eval x).cells.toList.length = (dcells d).length := hl
        have hr' : CellsRep A os w ((a.eval x).cells.zipIdx.foldl (fun (cs : Array Value) (p : Value × Nat) => cs.setIfInBounds ((place i).1 + p.2) p.1) cells) (dsplice cs (place i).1 (dcells d)) := by
          refine ⟨by rw [hsf, length_dsplice, hr.size], fun v hv => ?_, fun j v d' hv hd => ?_⟩
          · obtain ⟨j, hj, rfl⟩ := List.getElem_of_mem hv
            have : (((a.eval x).cells.zipIdx.foldl (fun (cs : Array Value) (p : Value × Nat) => cs.setIfInBounds ((place i).1 + p.2) p.1) cells))[j]? = some (((a.eval x).cells.zipIdx.foldl (fun (cs : Array Value) (p : Value × Nat) => cs.setIfInBounds ((place i).1 + p.2) p.1) cells).toList[j]) := by
              rw [← Array.getElem?_toList]; exact List.getElem?_eq_getElem hj
            rw [hf j] at this
            split at this
            · exact hone _ (List.mem_of_getElem? this)
            · rw [← Array.getElem?_toList] at this
              exact hr.one _ (List.mem_of_getElem? this)
          · rw [hf j] at hv
            rw [get_dsplice _ _ _ _ b2, ← hlc] at hd
            split at hv
            · rename_i hc
              rw [if_pos hc] at hd
              exact hp _ v d' hv hd
            · rename_i hc
              rw [if_neg hc] at hd
              exact hr.rep j v d' hv hd
        obtain ⟨cells', cs', hK, hfill, hrep⟩ := build_loop hpl r _ _ hr' (fun p hp => hx p (by simp [hp])) hm
        refine ⟨cells', cs', hK, ?_, hrep⟩
        simp only [List.map_cons, Instr.fill, hpl i (by omega)]
        rw [if_neg (by
          simp only [hsz, ne_eq, not_true_eq_false, decide_false, Bool.false_or, gt_iff_lt, decide_eq_true_eq, Bool.or_eq_true, or_false, false_or]
          rw [hr.size, ← b1]
          omega)]
        exact hfill
      · exact hm.elim
    split at h
    · exact h.elim
    · exact h.elim
    · exact h.elim
    · rename_i d e1 e2 e3
      exact key _ rfl (fun b d' e => e1 b d' e) (fun l e => e2 l e) (fun e => e3 e) h
theorem zero_run (hT : tabOk P tt = true) {t : TypeId} (hs : (tinfo tt t).size ≠ 0) : ∃ z, (zeroValue t).run P w = .ok z w ∧ CellsRep A os w z.cells (tinfo tt t).zero ∧ (tinfo tt t).zero.length = (tinfo tt t).size := by
  obtain ⟨i, hi, _, _, z, hz, hzo, hl⟩ := tab_size hT hs
  obtain ⟨h1, h2, h3⟩ := zOk_all (A := A) (w := w) hzo
  refine ⟨z, by simp [zeroValue, typeInfo, hi, hz], ⟨by simpa using h1, h2, fun i v d hv hd => .imm (h3 i v d (by simpa using hv) hd)⟩, hl⟩
theorem allIn_mem : ∀ {fs : List (TypeId × Nat)}, allIn tt fs = true → ∀ f ∈ fs, (tinfo tt f.1).size ≠ 0
  | [], _, f, hf => by simp at hf
  | x :: r, h, f, hf => by
    unfold allIn at h
    split at h
    · exact absurd h (by simp)
    · rename_i hs
      rcases List.mem_cons.1 hf with rfl | hf
      · exact hs
      · exact allIn_mem h f hf
theorem places_run (hT : tabOk P tt = true) : ∀ (F : List Field) (fs : List (TypeId × Nat)), fsOk F fs = true → (∀ f ∈ fs, (tinfo tt f.1).size ≠ 0) →
    (F.mapM fun f => (do pure (f.offset, ← sizeOf f.type) : Sem (Nat × Nat))).run P w = .ok (fs.map fun f => (f.2, (tinfo tt f.1).size)) w
  | [], [], _, _ => by simp
  | [], _ :: _, h, _ => by simp [fsOk] at h
  | _ :: _, [], h, _ => by simp [fsOk] at h
  | x :: F, y :: fs, h, hs => by
    simp only [fsOk, Bool.and_eq_true, bne_iff_ne] at h
    have ih := places_run hT F fs h.2 (fun f hf => hs f (by simp [hf]))
    have e1 := Nat.eq_of_beq_eq_true h.1.1.1
    have e2 := Nat.eq_of_beq_eq_true h.1.1.2
    simp only [List.mapM_cons, Sem.run_bind, e1, e2, run_sizeOf_tab hT (hs y (by simp)), Result.andThen_ok, Sem.run_pure, ih, List.map_cons]
theorem fieldOf_get : ∀ {fs : List (TypeId × Nat)} {i : Nat}, i < fs.length → fs[i]? = some (fieldOf fs i)
  | [], i, h => by simp at h
  | _ :: _, 0, _ => rfl
  | _ :: r, i + 1, h => by simpa [fieldOf] using fieldOf_get (fs := r) (i := i) (by simpa using h)
theorem build_ok (hT : tabOk P tt = true) {t : TypeId} {parts : Array (Nat × Operand)} {K : Option Prop → DV → Prop} (ho : o.op = .build t parts)
    (hx : ∀ p ∈ parts.toList, Has A os w a ρ p.2) (h : dBuild tt t ρ parts.toList K) : GivesSome P A os w a o K := by
  unfold dBuild at h
  have hparts : (parts.map fun (i, x) => (i, a.eval x)).toList = parts.toList.map fun p => (p.1, a.eval p.2) := by cases parts; simp
  split at h
  · rename_i fs hk
    split at h
    · rename_i m hal hm
      have hs : (tinfo tt t).size ≠ 0 := by omega
      obtain ⟨F, hu, hF, _⟩ := tab_st hT hk
      obtain ⟨z, hz, hrep, _⟩ := zero_run (A := A) (os := os) (w := w) hT hs
      have hin := allIn_mem hal
      have hpl := places_run (w := w) hT F.toList fs hF hin
      obtain ⟨cells', cs', hK, hfill, hr⟩ := build_loop (pl := fun i => (fs.map fun f => (f.2, (tinfo tt f.1).size))[i]?) (fun i hi => by
        cases hb : Nat.blt i fs.length with
        | true =>
          have hb' : i < fs.length := Nat.le_of_ble_eq_true hb
          simp only [List.getElem?_map, fieldOf_get hb']
          rfl
        | false => rw [hb] at hi; exact absurd rfl hi) parts.toList _ _ hrep hx h
      refine ⟨_, _, hK, fun _ => ⟨.agg cells', ?_, ?_⟩⟩
      · have hmap : (F.mapM fun f => (do pure (f.offset, ← sizeOf f.type) : Sem (Nat × Nat))).run P w = .ok (fs.map fun f => (f.2, (tinfo tt f.1).size)).toArray w := by
          rw [Array.mapM_eq_mapM_toList, Sem.run_map, hpl]
          rfl
        simp only [execOp, ho, Instr.build, Sem.run_bind, hz, Result.andThen_ok, Sem.run_pure, run_underlying hu, hmap, hparts]
        have hfill' : Instr.fill (fun x => (fs.map fun f => (f.2, (tinfo tt f.1).size)).toArray[x]?) z.cells (parts.toList.map fun p => (p.1, a.eval p.2)) = some cells' := by
          simpa using hfill
        simp only [hfill', Sem.run_pure, Result.andThen_ok]
      · have : cells' = cells'.toList.toArray := by simp
        rw [this]
        exact .agg (by simpa using hr.size) hr.one (fun i v d hv hd => hr.rep i v d (by simpa using hv) hd)
    · exact h.elim
  · rename_i n e hk
    split at h
    · rename_i m1 m2 h1 h2
      have hs : (tinfo tt t).size ≠ 0 := by omega
      have hse : (tinfo tt e).size ≠ 0 := by omega
      have hu := tab_arr hT hk
      obtain ⟨z, hz, hrep, _⟩ := zero_run (A := A) (os := os) (w := w) hT hs
      obtain ⟨cells', cs', hK, hfill, hr⟩ := build_loop (pl := fun i => some (i * (tinfo tt e).size, (tinfo tt e).size)) (fun i hi => rfl) parts.toList _ _ hrep hx h
      refine ⟨_, _, hK, fun _ => ⟨.agg cells', ?_, ?_⟩⟩
      · simp only [execOp, ho, Instr.build, Sem.run_bind, hz, Result.andThen_ok, Sem.run_pure, run_underlying hu, run_sizeOf_tab hT hse, hparts, hfill]
      · have : cells' = cells'.toList.toArray := by simp
        rw [this]
        exact .agg (by simpa using hr.size) hr.one (fun i v d hv hd => hr.rep i v d (by simpa using hv) hd)
    · exact h.elim
  · exact h.elim

theorem opt_mem {α : Type} {x : Option α} {y : α} (h : x = some y) : y ∈ x.toList := by subst h; simp
theorem dval_ok (hT : tabOk P tt = true) (h0 : (tinfo tt 0).size = 0) (hO : ObjsOk A os B w) {K : Option Prop → DV → Prop} (hx : ∀ x ∈ o.op.operands.toList, Has A os w a ρ x)
    (h : dval tt (os.map (·.2)) o.op ρ K) : GivesSome P A os w a o K := by
  generalize ho : o.op = op at h hx
  unfold dval at h
  split at h
  · exact move_ok (.inl ho) (hx _ (by simp [Op.operands])) h
  · exact move_ok (.inr ho) (hx _ (by simp [Op.operands])) h
  · exact pick_ok ho (hx _ (by simp [Op.operands])) (hx _ (by simp [Op.operands])) (hx _ (by simp [Op.operands])) h
  · exact nilCheck_ok ho (hx _ (by simp [Op.operands])) h
  · rename_i op t x y u
    have hxx := hx x (by simp [Op.operands])
    have hyy := hx y (by simp [Op.operands])
    unfold dbin at h
    split at h
    · rename_i k p k' q e1 e2
      split at h
      · exact dShift_ok ho (hxx.v e1) (hyy.v e2) h
      · split at h
        · rename_i hk
          obtain rfl := ikEq_iff.1 hk
          exact dInt_ok ho (hxx.v e1) (hyy.v e2) h
        · exact h.elim
    · rename_i e1 e2
      exact dStr_ok ho (hxx.v e1) (hyy.v e2) h
    · rename_i e1 e2
      split at h
      · rename_i hk
        exact dBool_ok hT ho (hxx.v e1) (hyy.v e2) hk h
      · exact h.elim
    · rename_i e1 e2
      exact dAgg_ok hT ho hxx hyy e1 e2 h
    · exact h.elim
  · exact un_ok ho (hx _ (by simp [Op.operands])) h
  · exact convert_ok hT ho (hx _ (by simp [Op.operands])) h
  · exact fieldAddr_ok hT h0 ho (hx _ (by simp [Op.operands])) h
  · exact field_ok hT h0 ho (hx _ (by simp [Op.operands])) h
  · exact indexAddr_ok hT hO ho (hx _ (by simp [Op.operands])) (hx _ (by simp [Op.operands])) h
  · exact index_ok hT ho (hx _ (by simp [Op.operands])) (hx _ (by simp [Op.operands])) h
  · exact load_ok hT hO ho (hx _ (by simp [Op.operands])) h
  · exact extract_ok ho (hx _ (by simp [Op.operands])) h
  · exact slice_ok hT ho (hx _ (by simp [Op.operands])) (fun y hy => hx y (by simp [Op.operands, hy])) (fun y hy => hx y (by simp [Op.operands, hy])) (fun y hy => hx y (by simp [Op.operands, hy])) h
  · split at h
    · rename_i hf
      exact makeFunc_ok ho hf (fun x hm => hx x (by simp [Op.operands] at hm ⊢; exact .inr hm)) h
    · exact h.elim
  · rename_i t parts
    exact build_ok hT ho (fun p hp => hx p.2 (by
      simp only [Op.operands]
      simp only [List.mem_map]
      exact ⟨p, hp, rfl⟩)) h
  · rename_i args ats
    split at h
    · rename_i x t e1 e2
      exact len_ok hT hO ho e1 e2 (hx x (by simp [Op.operands, Call.operands]; rw [← Array.mem_toList_iff, e1]; simp)) h
    · exact h.elim
  · split at h
    · rename_i x y e1
      exact min_ok ho e1 (hx x (by simp [Op.operands, Call.operands]; rw [← Array.mem_toList_iff, e1]; simp)) (hx y (by simp [Op.operands, Call.operands]; rw [← Array.mem_toList_iff, e1]; simp)) h
    · exact h.elim
  · split at h
    · rename_i x y e1
      exact max_ok ho e1 (hx x (by simp [Op.operands, Call.operands]; rw [← Array.mem_toList_iff, e1]; simp)) (hx y (by simp [Op.operands, Call.operands]; rw [← Array.mem_toList_iff, e1]; simp)) h
    · exact h.elim
  · exact h.elim
end
end Go.Lift
