/- A data-level logic for the model: what a body does to data; its soundness (part LiftC3). No conditions. -/
import Derived.Test.YtmfgjjnmfahcjaaLiftC2
set_option linter.unusedSimpArgs false
set_option linter.unusedVariables false
namespace Go.Lift
open Go

/-! # Values out of memory -/
theorem list_of {α : Type} {Q : Nat → α → Prop} : ∀ (n : Nat), (∀ j, j < n → ∃ v, Q j v) → ∃ vs : List α, vs.length = n ∧ ∀ (j : Nat) v, vs[j]? = some v → Q j v
  | 0, _ => ⟨[], rfl, by simp⟩
  | n + 1, h => by
    obtain ⟨vs, hl, hq⟩ := list_of n (fun j hj => h j (by omega))
    obtain ⟨v, hv⟩ := h n (by omega)
    refine ⟨vs ++ [v], by simp [hl], fun j u hu => ?_⟩
    by_cases hj : j < n
    · rw [List.getElem?_append_left (by omega)] at hu
      exact hq j u hu
    · have : j < n + 1 := by
        have := (List.getElem?_eq_some_iff.1 hu).1
        simpa [hl] using this
      obtain rfl : j = n := by omega
      rw [List.getElem?_append_right (by omega)] at hu
      simp [hl] at hu
      subst hu
      exact hv

theorem lget_os {os : Objs} {i : Nat} {o : LObj} (h : lget (os.map (·.2)) i = o) (hd : o ≠ .dead) : ∃ x, os[i]? = some (x, o) := by
  rw [lget_eq, List.getElem?_map] at h
  cases hi : os[i]? with
  | none => rw [hi] at h; exact absurd h.symm hd
  | some p => rw [hi] at h; obtain ⟨x, o'⟩ := p; simp at h; subst h; exact ⟨x, rfl⟩

section
variable {P : Program} {tt : TT} {A : Nat → Prop} {os : Objs} {B : Home} {w : World} {a : Act} {o : Oper} {ρ : Operand → DV}

theorem load_take (hT : tabOk P tt = true) {t : TypeId} (hs : (tinfo tt t).size ≠ 0) {ad : Addr} {ds : List DV} {K : DV → Prop}
    (hc : ∀ (j : Nat) d, ds[j]? = some d → ∃ v, w.cell? (ad.add j) = some v ∧ v.oneCell' = true ∧ RepV A os w v d) (h : dTake (tinfo tt t).agg (tinfo tt t).size ds K) :
    ∃ d x, K d ∧ (loadVar t ad).run P w = .ok x w ∧ RepV A os w x d := by
  unfold dTake at h
  split at h
  · rename_i hag
    obtain ⟨hl, h⟩ := takeK_elim h
    obtain ⟨vs, hvl, hv⟩ := list_of (Q := fun j v => w.cell? (ad.add j) = some v ∧ v.oneCell' = true ∧ ∃ d, ds[j]? = some d ∧ RepV A os w v d) (tinfo tt t).size (fun j hj => by
      obtain ⟨v, h1, h2, h3⟩ := hc j ds[j] (List.getElem?_eq_getElem (by omega))
      exact ⟨v, h1, h2, _, List.getElem?_eq_getElem (by omega), h3⟩)
    have hrun := run_loadCells_list (P := P) w ad vs (fun j v hj => (hv j v hj).1)
    refine ⟨_, .agg vs.toArray, h, ?_, .agg (by simp [hvl]; omega) (fun v hm => ?_) (fun i v d hi hd => ?_)⟩
    · simp only [loadVar, Sem.run_bind, run_isAgg_tab hT hs, Result.andThen_ok, hag, if_true, run_sizeOf_tab hT hs, ← hvl, hrun, Sem.run_pure, Sem.run_map]
    · obtain ⟨j, hj, rfl⟩ := List.getElem_of_mem hm
      exact (hv j _ (List.getElem?_eq_getElem hj)).2.1
    · obtain ⟨_, _, d', hd', hr⟩ := hv i v hi
      have hlt : i < (tinfo tt t).size := by
        have := (List.getElem?_eq_some_iff.1 hi).1
        omega
      rw [List.getElem?_take, if_pos hlt, hd'] at hd
      cases hd
      exact hr
  · rename_i hag
    split at h
    · rename_i d r
      have h := frc_iff.1 h
      obtain ⟨v, h1, h2, h3⟩ := hc 0 d rfl
      refine ⟨_, v, h, ?_, h3⟩
      have h0 : ad.add 0 = ad := by simp [Addr.add]
      rw [h0] at h1
      simp only [loadVar, Sem.run_bind, run_isAgg_tab hT hs, Result.andThen_ok, hag, Bool.false_eq_true, if_false, run_load, h1]
    · exact h.elim

/-- where a pointer into immutable memory points -/
theorem ip_cells {x : Value} {cs : List DV} (h : RepV A os w x (.ip cs)) : ∃ ad, x = .pointer (some ad) ∧ ¬ A ad.block ∧ ad.block < w.heap.size ∧
    ∀ (j : Nat) d, cs[j]? = some d → ∃ v, w.cell? (ad.add j) = some v ∧ v.oneCell' = true ∧ Imm A w v d := by
  have h := h.ip_inv
  cases h with
  | ip xs hA hb hone hcell hx => exact ⟨_, rfl, hA, hb, fun j d hd => ⟨_, hcell j d hd, hone j, hx j d hd⟩⟩
theorem ip_mk {ad : Addr} {cs : List DV} (hA : ¬ A ad.block) (hb : ad.block < w.heap.size) (hc : ∀ (j : Nat) d, cs[j]? = some d → ∃ v, w.cell? (ad.add j) = some v ∧ v.oneCell' = true ∧ Imm A w v d) : Imm A w (.pointer (some ad)) (.ip cs) := by
  have : ∀ j, ∃ v : Value, v.oneCell' = true ∧ ∀ d, cs[j]? = some d → w.cell? (ad.add j) = some v ∧ Imm A w v d := by
    intro j
    cases hj : cs[j]? with
    | none => exact ⟨.nilFunc, rfl, by simp⟩
    | some d =>
      obtain ⟨v, h1, h2, h3⟩ := hc j d hj
      exact ⟨v, h2, fun d' hd' => by cases hd'; exact ⟨h1, h3⟩⟩
  exact .ip (fun j => (this j).choose) hA hb (fun j => (this j).choose_spec.1) (fun j d hd => ((this j).choose_spec.2 d hd).1) (fun j d hd => ((this j).choose_spec.2 d hd).2)
/-- the cells of an object of the call's own -/
theorem obj_cells (hO : ObjsOk A os B w) {i g : Nat} {t : TypeId} {cs : List DV} (h : os[i]? = some (.pointer (some ⟨g, 0, none⟩), .cells t cs)) :
    ∃ arr, w.heap[g]? = some (.cells arr t (0, 0)) ∧ arr.size = cs.length ∧ B.mine g ∧ (∀ v ∈ arr.toList, v.oneCell' = true) ∧ (∀ (j : Nat) v d, arr[j]? = some v → cs[j]? = some d → RepV A os w v d) ∧
      ∀ (j : Nat) d, cs[j]? = some d → ∃ v, w.cell? ⟨g, j, none⟩ = some v ∧ v.oneCell' = true ∧ RepV A os w v d := by
  obtain ⟨g', arr, e, hB, hh, hs, hone, hr⟩ := hO _ _ _ h
  cases e
  refine ⟨arr, hh, hs, hB, hone, hr, fun j d hd => ?_⟩
  have hj : j < arr.size := by have := (List.getElem?_eq_some_iff.1 hd).1; omega
  refine ⟨arr[j], ?_, hone _ (by simp), hr j _ d (by simp [hj]) hd⟩
  rw [cell_of_row w g j arr t (0, 0) hh]
  simp [hj]

theorem load_ok (hT : tabOk P tt = true) (hO : ObjsOk A os B w) {t : TypeId} {x : Operand} {K : Option Prop → DV → Prop} (ho : o.op = .load t x) (hx : Has A os w a ρ x) (h : dLoad tt (os.map (·.2)) t (ρ x) K) : GivesSome P A os w a o K := by
  unfold Has at hx
  unfold dLoad at h
  have fin : ∀ {ad : Addr} {y : Value} {c : Option Prop} {d : DV}, a.eval x = .pointer (some ad) → K c d → (Holds c → (loadVar t ad).run P w = .ok y w ∧ RepV A os w y d) → GivesSome P A os w a o K := by
    intro ad y c d he hK hh
    refine ⟨_, _, hK, fun hc => ⟨y, ?_, (hh hc).2⟩⟩
    simp only [execOp, ho, he, Instr.loadAt, Instr.sureAddr, Sem.run_bind, Sem.run_pure, Result.andThen_ok, (hh hc).1]
  split at h
  · exact h.elim
  · rename_i hs0
    have hs : (tinfo tt t).size ≠ 0 := hs0
    split at h
    · rename_i cs e
      rw [e] at hx
      obtain ⟨ad, he, _, _, hc⟩ := ip_cells hx
      obtain ⟨d, y, hK, h1, h2⟩ := load_take (os := os) hT hs (fun j d hd => by obtain ⟨v, h1, h2, h3⟩ := hc j d hd; exact ⟨v, h1, h2, .imm h3⟩) h
      exact fin he hK (fun _ => ⟨h1, h2⟩)
    · rename_i i off e
      rw [e] at hx
      obtain ⟨g, t', cs', hi, he⟩ := hx.lp_inv
      split at h
      · rename_i t2 cs hl
        obtain ⟨x', hi'⟩ := lget_os hl (by simp)
        rw [hi] at hi'
        cases hi'
        obtain ⟨_, _, _, _, _, _, hcell⟩ := obj_cells hO hi
        obtain ⟨_, h⟩ := dropK_elim h
        obtain ⟨d, y, hK, h1, h2⟩ := load_take hT hs (ad := ⟨g, off, none⟩) (fun j d hd => by rw [List.getElem?_drop] at hd; rw [Addr.add_mk]; exact hcell _ d hd) h
        exact fin he hK (fun _ => ⟨h1, h2⟩)
      · exact h.elim
    · rename_i i off e
      rw [e] at hx
      obtain ⟨g, t', cs', hi, he⟩ := hx.ap_inv
      split at h
      · rename_i t2 cs hl
        obtain ⟨x', hi'⟩ := lget_os hl (by simp)
        rw [hi] at hi'
        cases hi'
        obtain ⟨_, _, _, _, _, _, hcell⟩ := obj_cells hO hi
        split at h
        · rename_i hag
          obtain ⟨ds, hK⟩ := h
          by_cases hc : (cs'.drop off).take (tinfo tt t).size = ds ∧ ds.length = (tinfo tt t).size
          · obtain ⟨d, y, e, h1, h2⟩ := load_take hT hs (ad := ⟨g, off, none⟩) (K := fun d => d = .agg ds) (fun j d hd => by rw [List.getElem?_drop] at hd; rw [Addr.add_mk]; exact hcell _ d hd) (ds := cs'.drop off) (by
              unfold dTake
              rw [hag]
              have : ∀ (n : Nat) (l : List DV) (Q : List DV → Prop), n ≤ l.length → Q (l.take n) → takeK n l Q := by
                intro n
                induction n with
                | zero => intro l Q _ hq; simpa [takeK] using hq
                | succ n ih =>
                  intro l Q hn hq
                  cases l with
                  | nil => simp at hn
                  | cons d r => exact frc_iff.2 (ih r _ (by simpa using hn) (by simpa using hq))
              refine this _ _ _ ?_ (by rw [hc.1])
              have := hc.2
              rw [← hc.1, List.length_take] at this
              omega)
            subst e
            exact fin he hK (fun _ => ⟨h1, h2⟩)
          · exact ⟨_, _, hK, fun hh => absurd (Holds.some_iff.1 hh) hc⟩
        · rename_i hag
          obtain ⟨d, h⟩ := h
          have hK := frc_iff.1 h
          by_cases hc : cs'[off]? = some d
          · obtain ⟨v, h1, h2, h3⟩ := hcell off d hc
            refine fin he hK (fun _ => ⟨?_, h3⟩)
            simp only [loadVar, Sem.run_bind, run_isAgg_tab hT hs, Result.andThen_ok, hag, Bool.false_eq_true, if_false, run_load, h1]
          · exact ⟨_, _, hK, fun hh => absurd (Holds.some_iff.1 hh) hc⟩
      · exact h.elim
    · rename_i i k off e
      rw [e] at hx
      split at h
      · rename_i e' sz es' hl
        obtain ⟨x', hi⟩ := lget_os hl (by simp)
        obtain ⟨g, n, c, rfl, he⟩ := hx.rp_row hi
        obtain ⟨ed, h⟩ := h
        obtain ⟨_, h⟩ := dropK_elim h
        obtain ⟨hmine, xs, hown, hsz, hrl, hone, hrow⟩ := hO _ _ _ hi
        have hdt : ∃ d, K (some (es'[k]? = some ed)) d ∧ dTake (tinfo tt t).agg (tinfo tt t).size (ed.drop off) (fun d' => d' = d ∧ K (some (es'[k]? = some ed)) d) := by
          unfold dTake at h ⊢
          split at h
          · obtain ⟨hl, hh⟩ := takeK_elim h
            refine ⟨_, hh, ?_⟩
            have : ∀ (n : Nat) (l : List DV) (Q : List DV → Prop), n ≤ l.length → Q (l.take n) → takeK n l Q := by
              intro n
              induction n with
              | zero => intro l Q _ hq; simpa [takeK] using hq
              | succ n ih =>
                intro l Q hn hq
                cases l with
                | nil => simp at hn
                | cons d r => exact frc_iff.2 (ih r _ (by simpa using hn) (by simpa using hq))
            exact this _ _ _ hl ⟨rfl, hh⟩
          · split at h
            · have hh := frc_iff.1 h
              exact ⟨_, hh, frc_iff.2 ⟨rfl, hh⟩⟩
            · exact h.elim
        obtain ⟨d, hK, h⟩ := hdt
        by_cases hc : es'[k]? = some ed
        · have hcell : ∀ (j : Nat) d, (ed.drop off)[j]? = some d → ∃ v, w.cell? (Addr.add ⟨g, k * sz + off, none⟩ j) = some v ∧ v.oneCell' = true ∧ RepV A os w v d := by
            intro j d hd
            rw [List.getElem?_drop] at hd
            obtain ⟨v, hv, hi⟩ := hrow k (off + j) ed d hc hd
            refine ⟨v, ?_, hone v (List.mem_of_getElem? hv), .imm hi⟩
            have := hown.cells (g := g) rfl _ _ hv
            rw [Addr.add_mk] at this ⊢
            rw [← this]
            congr 2
            omega
          obtain ⟨d', y, ⟨rfl, _⟩, h1, h2⟩ := load_take hT hs hcell h
          exact fin he hK (fun _ => ⟨h1, h2⟩)
        · exact ⟨_, _, hK, fun hh => absurd (Holds.some_iff.1 hh) hc⟩
      · exact h.elim
    · exact h.elim
end
end Go.Lift
