/- A data-level logic for the model: what a body does to data; its soundness (part LiftC2). No conditions. -/
import Derived.Test.YtmfgjjnmfahcjaaLiftC
set_option linter.unusedSimpArgs false
set_option linter.unusedVariables false
namespace Go.Lift
open Go
section
variable {P : Program} {tt : TT} {A : Nat → Prop} {os : Objs} {w : World} {a : Act} {o : Oper} {ρ : Operand → DV}

/-! ## '==' on structs whose cells are ints, bools and strings -/
def kindOf : SK → Value → Prop
  | .int k, .int k' _ => k = k'
  | .bool, .bool _ => True
  | .str, .string _ => True
  | _, _ => False
def kinds : List SK → List Value → Prop
  | [], [] => True
  | k :: ks, v :: vs => kindOf k v ∧ kinds ks vs
  | _, _ => False
def veq : Value → Value → Bool
  | .int _ a, .int _ b => decide (a = b)
  | .bool a, .bool b => a == b
  | .string a, .string b => decide (a = b)
  | _, _ => false
def veqs : List Value → List Value → Bool
  | v :: vs, u :: us => veq v u && veqs vs us
  | _, _ => true
theorem kinds_length : ∀ {ks : List SK} {vs : List Value}, kinds ks vs → vs.length = ks.length
  | [], [], _ => rfl
  | [], _ :: _, h => h.elim
  | _ :: _, [], h => h.elim
  | _ :: ks, _ :: vs, h => by simp [kinds_length h.2]
theorem kinds_append : ∀ {ks ls : List SK} {vs : List Value}, kinds (ks ++ ls) vs → kinds ks (vs.take ks.length) ∧ kinds ls (vs.drop ks.length)
  | [], ls, vs, h => ⟨by simp [kinds], by simpa using h⟩
  | k :: ks, ls, [], h => h.elim
  | k :: ks, ls, v :: vs, h => by
    obtain ⟨h1, h2⟩ := kinds_append (ks := ks) h.2
    exact ⟨⟨h.1, by simpa using h1⟩, by simpa using h2⟩
theorem veqs_append : ∀ {n : Nat} {vs us : List Value}, vs.length = us.length → veqs vs us = (veqs (vs.take n) (us.take n) && veqs (vs.drop n) (us.drop n))
  | 0, vs, us, _ => by simp [veqs]
  | n + 1, [], us, h => by cases us <;> simp [veqs] at h ⊢
  | n + 1, v :: vs, [], h => by simp at h
  | n + 1, v :: vs, u :: us, h => by
    simp only [List.take_succ_cons, List.drop_succ_cons, veqs, Bool.and_assoc]
    rw [veqs_append (n := n) (by simpa using h)]
theorem eq1K_elim {k : SK} {x y : DV} {K : Bool → Prop} (h : eq1K k x y K) : ∃ v u, x = .v v ∧ y = .v u ∧ kindOf k v ∧ kindOf k u ∧ K (veq v u) := by
  unfold eq1K at h
  split at h
  · split at h
    · rename_i hk
      simp only [Bool.and_eq_true] at hk
      exact ⟨_, _, rfl, rfl, ikEq_iff.1 hk.1, ikEq_iff.1 hk.2, h⟩
    · exact h.elim
  · exact ⟨_, _, rfl, rfl, trivial, trivial, h⟩
  · exact ⟨_, _, rfl, rfl, trivial, trivial, h⟩
  · exact h.elim
theorem eqCells_elim : ∀ {ks : List SK} {xs ys : List DV} {K : Bool → Prop}, eqCells ks xs ys K → ∃ vs us, xs = vs.map .v ∧ ys = us.map .v ∧ kinds ks vs ∧ kinds ks us ∧ K (veqs vs us)
  | [], [], [], K, h => ⟨[], [], rfl, rfl, trivial, trivial, h⟩
  | k :: ks, x :: xs, y :: ys, K, h => by
    obtain ⟨v, u, rfl, rfl, k1, k2, h⟩ := eq1K_elim h
    obtain ⟨vs, us, rfl, rfl, l1, l2, hK⟩ := eqCells_elim h
    exact ⟨v :: vs, u :: us, rfl, rfl, ⟨k1, l1⟩, ⟨k2, l2⟩, hK⟩
  | [], [], _ :: _, K, h => by simp [eqCells] at h
  | [], _ :: _, [], K, h => by simp [eqCells] at h
  | [], _ :: _, _ :: _, K, h => by simp [eqCells] at h
  | _ :: _, [], [], K, h => by simp [eqCells] at h
  | _ :: _, [], _ :: _, K, h => by simp [eqCells] at h
  | _ :: _, _ :: _, [], K, h => by simp [eqCells] at h

/-- a value of a type out of its cells, in memory's own form -/
def shapeV (agg : Bool) (vs : List Value) : Value :=
  match agg with
  | true => .agg vs.toArray
  | false => vs.headD undef
theorem run_part_tab (hT : tabOk P tt = true) {t : TypeId} (hs : (tinfo tt t).size ≠ 0) (vs : List Value) (off : Nat) (h : off + (tinfo tt t).size ≤ vs.length) (h1 : (tinfo tt t).agg = false → (tinfo tt t).size = 1) :
    (part t vs.toArray off).run P w = .ok (shapeV (tinfo tt t).agg ((vs.drop off).take (tinfo tt t).size)) w := by
  unfold part
  simp only [Sem.run_bind, run_isAgg_tab hT hs, Result.andThen_ok]
  cases ha : (tinfo tt t).agg
  · have h1 := h1 ha
    rw [h1] at h ⊢
    have hg : vs.toArray[off]? = some (vs[off]'(by omega)) := by simp [List.getElem?_eq_getElem (show off < vs.length by omega)]
    rw [if_neg (by simp)]
    simp only [hg, Sem.run_pure, shapeV]
    rw [List.drop_eq_getElem_cons (by omega)]
    rfl
  · rw [if_pos rfl]
    simp only [Sem.run_bind, run_sizeOf_tab hT hs, Result.andThen_ok, Sem.run_pure, shapeV, Sem.run_map]
    congr 2
    apply Array.ext'
    simp

/-- what '==' needs of a type: at each depth its cells are compared one by one -/
def EqT (P : Program) (tt : TT) (t : TypeId) (ks : List SK) (d : Nat) : Prop :=
  (tinfo tt t).size = ks.length ∧ (tinfo tt t).size ≠ 0 ∧ ((tinfo tt t).agg = false → (tinfo tt t).size = 1) ∧
    ∀ (vs us : List Value) (w : World), kinds ks vs → kinds ks us → (Op.equalIn d t (shapeV (tinfo tt t).agg vs) (shapeV (tinfo tt t).agg us)).run P w = .ok (veqs vs us) w

theorem flatFs_ok (hT : tabOk P tt = true) {g : TypeId → Option (List SK)} {d : Nat} (hg : ∀ t ks, g t = some ks → EqT P tt t ks d) :
    ∀ (F : List Field) (fs : List (TypeId × Nat)) (o : Nat) (ks : List SK) (vs us : List Value) (w : World), fsOk F fs = true → flatFs g fs o = some ks → kinds ks (vs.drop o) → kinds ks (us.drop o) → vs.length = us.length →
      (Op.eqFields d vs.toArray us.toArray F).run P w = .ok (veqs (vs.drop o) (us.drop o)) w
  | [], [], o, ks, vs, us, w, hF, h, k1, k2, hl => by
    simp only [flatFs, Option.some.injEq] at h
    subst h
    cases hv : vs.drop o with
    | cons x r => rw [hv] at k1; exact k1.elim
    | nil => simp [Op.eqFields, veqs]
  | [], _ :: _, o, ks, vs, us, w, hF, h, k1, k2, hl => by simp [fsOk] at hF
  | _ :: _, [], o, ks, vs, us, w, hF, h, k1, k2, hl => by simp [fsOk] at hF
  | f :: F, x :: fs, o, ks, vs, us, w, hF, h, k1, k2, hl => by
    simp only [fsOk, Bool.and_eq_true, bne_iff_ne] at hF
    obtain ⟨⟨⟨ht, ho⟩, hn⟩, hF⟩ := hF
    have ht := Nat.eq_of_beq_eq_true ht
    have ho := Nat.eq_of_beq_eq_true ho
    unfold flatFs at h
    split at h
    · exact absurd h (by simp)
    · rename_i hb
      have hb := Nat.eq_of_beq_eq_true hb
      split at h
      · exact absurd h (by simp)
      · rename_i k1s hk1
        split at h
        · exact absurd h (by simp)
        · rename_i l hl2
          simp only [Option.some.injEq] at h
          subst h
          obtain ⟨hs, hs0, hs1, heq⟩ := hg _ _ hk1
          obtain ⟨a1, a2⟩ := kinds_append k1
          obtain ⟨b1, b2⟩ := kinds_append k2
          have lv := kinds_length k1
          have lu := kinds_length k2
          simp only [List.length_drop, List.length_append] at lv lu
          have hof : f.offset = o := ho.trans hb
          have p1 := run_part_tab (w := w) hT hs0 vs o (by omega) hs1
          have p2 := run_part_tab (w := w) hT hs0 us o (by omega) hs1
          rw [hs] at p1 p2
          have e1 := heq _ _ w a1 b1
          simp only [Op.eqFields, if_pos hn, Sem.run_bind, ht, hof, p1, p2, Result.andThen_ok, e1]
          rw [veqs_append (n := k1s.length) (vs := vs.drop o) (us := us.drop o) (by simp [hl])]
          have ih := flatFs_ok hT hg F fs (o + k1s.length) l vs us w hF hl2 (by simpa [Nat.add_comm] using a2) (by simpa [Nat.add_comm] using b2) hl
          cases hr : veqs ((vs.drop o).take k1s.length) ((us.drop o).take k1s.length)
          · simp
          · simp only [Bool.not_true, Bool.false_eq_true, if_false, ih, Bool.true_and, List.drop_drop]
theorem eqT_flat (hT : tabOk P tt = true) : ∀ (n : Nat) (t : TypeId) (ks : List SK), flatK tt n t = some ks → ∀ d, n ≤ d → EqT P tt t ks d
  | 0, t, ks, h, d, hd => by simp [flatK] at h
  | n + 1, t, ks, h, 0, hd => by omega
  | n + 1, t, ks, h, d + 1, hd => by
    unfold flatK at h
    split at h
    · rename_i k hk
      have he := tab_entry hT (t := t) (.inr (by rw [hk]; simp))
      obtain ⟨dd, hdd, hko, ha⟩ := he.kind
      have hu := tab_int hT hk
      rw [hu] at hdd
      cases hdd
      have h1 := he.one ha.symm
      cases h
      refine ⟨by simp [h1], by simp [h1], fun _ => h1, fun vs us w k1 k2 => ?_⟩
      rw [← ha]
      match vs, us, k1, k2 with
      | [.int q p], [.int q' p'], k1, k2 =>
        have e1 : k = q := k1.1
        have e2 : k = q' := k2.1
        subst e1; subst e2
        simp [shapeV, aggD, run_equalIn_int w d t k k p p' hu, veqs, veq, Bool.beq_eq_decide_eq]
    · rename_i hk
      have he := tab_entry hT (t := t) (.inr (by rw [hk]; simp))
      obtain ⟨dd, hdd, hko, ha⟩ := he.kind
      have hu := tab_bool hT hk
      rw [hu] at hdd
      cases hdd
      have h1 := he.one ha.symm
      cases h
      refine ⟨by simp [h1], by simp [h1], fun _ => h1, fun vs us w k1 k2 => ?_⟩
      rw [← ha]
      match vs, us, k1, k2 with
      | [.bool p], [.bool p'], k1, k2 => simp [shapeV, aggD, run_equalIn_bool w d t p p' hu, veqs, veq]
    · rename_i hk
      have he := tab_entry hT (t := t) (.inr (by rw [hk]; simp))
      obtain ⟨dd, hdd, hko, ha⟩ := he.kind
      have hu := tab_str hT hk
      rw [hu] at hdd
      cases hdd
      have h1 := he.one ha.symm
      cases h
      refine ⟨by simp [h1], by simp [h1], fun _ => h1, fun vs us w k1 k2 => ?_⟩
      rw [← ha]
      match vs, us, k1, k2 with
      | [.string p], [.string p'], k1, k2 => simp [shapeV, aggD, run_equalIn_string w d t p p' hu, veqs, veq, beq_bytes]
    · rename_i fs hk
      split at h
      · rename_i ks' hf
        split at h
        · rename_i m hz hm
          cases h
          have hz := Nat.eq_of_beq_eq_true hz
          obtain ⟨F, hu, hF, hagg⟩ := tab_st hT hk
          have he := tab_entry hT (t := t) (.inr (by rw [hk]; simp))
          refine ⟨hz.symm, by omega, fun ha => absurd (ha.symm.trans hagg) (by simp), fun vs us w k1 k2 => ?_⟩
          have hfo : P.fieldsOf t = F := by simp [Program.fieldsOf, hu]
          rw [hagg]
          have := flatFs_ok hT (g := flatK tt n) (d := d) (fun t ks hh => eqT_flat hT n t ks hh d (by omega)) F.toList fs 0 ks vs us w hF hf (by simpa using k1) (by simpa using k2) (by rw [kinds_length k1, kinds_length k2])
          simp only [shapeV]
          rw [run_equalIn_struct w d t _ _ (by rw [hfo]; exact hu) (he.held hagg).1, hfo, this]
          simp
        · exact absurd h (by simp)
      · exact absurd h (by simp)
    · exact absurd h (by simp)

theorem dAgg_ok (hT : tabOk P tt = true) {op : BinOp} {t u : TypeId} {x y : Operand} {xs ys : List DV} {K : Option Prop → DV → Prop} (ho : o.op = .binOp op t x y u) (hx : Has A os w a ρ x) (hy : Has A os w a ρ y) (ex : ρ x = .agg xs) (ey : ρ y = .agg ys) (h : dAgg tt t op xs ys K) : GivesSome P A os w a o K := by
  unfold dAgg at h
  unfold Has at hx hy
  rw [ex] at hx
  rw [ey] at hy
  obtain ⟨vs, hvx, hl, _, hp⟩ := hx.agg_inv
  obtain ⟨us, hvy, hl', _, hp'⟩ := hy.agg_inv
  have same : ∀ {zs : List Value} {ds : List DV} {ts : List Value}, zs.length = ds.length → (∀ (i : Nat) v d, zs[i]? = some v → ds[i]? = some d → RepV A os w v d) → ds = ts.map .v → zs = ts := by
    intro zs ds ts h1 h2 h3
    subst h3
    apply List.ext_getElem?
    intro i
    by_cases hi : i < zs.length
    · have hi' : i < ts.length := by simpa [h1] using hi
      have := (h2 i zs[i] (.v ts[i]) (List.getElem?_eq_getElem hi) (by simp [hi'])).v_inv.1
      simp [hi, hi', this]
    · have hi' : ¬ i < ts.length := by simpa [h1] using hi
      simp [List.getElem?_eq_none (Nat.le_of_not_lt hi), List.getElem?_eq_none (Nat.le_of_not_lt hi')]
  split at h
  · rename_i ks hks hag
    obtain ⟨h1, h2, h3, h4⟩ := eqT_flat hT 5 t ks hks Op.maxDepth (by decide)
    have key : ∀ {K' : Bool → Prop}, eqCells ks xs ys K' → ∃ r, K' r ∧ (eqGuard op t x y (.agg vs.toArray) (.agg us.toArray)).run P w = .ok () w ∧ (Op.equal t (.agg vs.toArray) (.agg us.toArray)).run P w = .ok r w := by
      intro K' h
      obtain ⟨ts, ts', e1, e2, k1, k2, hK⟩ := eqCells_elim h
      obtain rfl := same hl hp e1
      obtain rfl := same hl' hp' e2
      have he := tab_entry hT (t := t) (.inl h2)
      refine ⟨_, hK, ?_, ?_⟩
      · cases op <;> first | rfl | simp [eqGuard, (he.held hag).2]
      · have := h4 _ _ w k1 k2
        rw [hag] at this
        exact this
    cases op <;> simp only at h <;> first
      | exact h.elim
      | (obtain ⟨r, hK, hg, he⟩ := key h
         refine ⟨_, _, hK, fun _ => ⟨_, ?_, .imm (.v rfl)⟩⟩
         simp only [execOp, ho, hvx, hvy, Sem.run_bind, hg, Result.andThen_ok, binOp, he, Sem.run_pure])
  · exact h.elim
end
end Go.Lift
