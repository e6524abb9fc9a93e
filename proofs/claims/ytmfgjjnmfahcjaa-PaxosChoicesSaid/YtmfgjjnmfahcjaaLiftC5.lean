/- A data-level logic for the model: what a body does to data; its soundness (part LiftC5). No conditions. -/
import Derived.Test.YtmfgjjnmfahcjaaLiftC4
set_option linter.unusedSimpArgs false
set_option linter.unusedVariables false
namespace Go.Lift
open Go
section
variable {P : Program} {tt : TT} {A : Nat → Prop} {os : Objs} {B : Home} {w : World} {a : Act} {o : Oper} {ρ : Operand → DV}

theorem bnd_eval {lo : Option Operand} {n other : Nat} (hl : ∀ x, lo = some x → Has A os w a ρ x) (h : bndIs ρ lo n other) : (lo = none ∧ n = other) ∨ ∃ x k, lo = some x ∧ a.eval x = .int k n := by
  cases lo with
  | none => exact .inl ⟨rfl, h⟩
  | some x =>
    obtain ⟨k, e⟩ := h
    exact .inr ⟨x, k, rfl, (hl x rfl).v e⟩
/-- a list's part -/
theorem lst_part {x : Value} {sz : Nat} {es : List (List DV)} {f : Bool} {l h : Nat} (hi : Imm A w x (.lst sz es f)) (hlh : l ≤ h) (hhn : h ≤ es.length) :
    ∃ (ad : Option Addr) (n c : Nat), x = .slice ad n c ∧ n = es.length ∧ h ≤ c ∧ (f = true → c = n) ∧
      (∀ c', h ≤ c' → c' ≤ c → ∀ f', (f' = true → c' = h) → Imm A w (.slice (if c' = l then ad else ad.map (·.add (l * sz))) (h - l) (c' - l)) (.lst sz ((es.take h).drop l) f')) := by
  cases hi with
  | @lst ad n c _ _ _ xs hn hc hm hf hsz hA hb hone hcell hx =>
    refine ⟨some ad, n, c, rfl, hn.symm, by omega, hf, fun c' h1 h2 f' hf' => ?_⟩
    have key : ∀ ad' : Addr, ad'.block = ad.block → (∀ j, j < (h - l) * sz → ad'.add j = (ad.add (l * sz)).add j) → Imm A w (.slice (some ad') (h - l) (c' - l)) (.lst sz ((es.take h).drop l) f') := by
      intro ad' hbl had
      refine .lst (fun i j => xs (l + i) j) (by simp; omega) (by omega) (by omega) (fun e => by have := hf' e; omega) (fun e he => hsz e (List.mem_of_mem_take (List.mem_of_mem_drop he))) (fun hne => by rw [hbl]; exact hA (fun e0 => hne (by rw [e0]; simp))) (fun hne => by rw [hbl]; exact hb (fun e0 => hne (by rw [e0]; simp))) (fun i j => hone _ _) (fun i j e d he hd => ?_) (fun i j e d he hd => ?_)
      · rw [List.getElem?_drop, List.getElem?_take] at he
        split at he
        · rename_i hlt
          have hlen := hsz e (List.mem_of_getElem? he)
          have hj := (List.getElem?_eq_some_iff.1 hd).1
          have := hcell (l + i) j e d he hd
          rw [had _ (by
            have h3 : i + 1 ≤ h - l := by omega
            have h4 : (i + 1) * sz ≤ (h - l) * sz := Nat.mul_le_mul_right _ h3
            rw [Nat.add_mul] at h4
            omega), Addr.add_add]
          rw [show l * sz + (i * sz + j) = (l + i) * sz + j by rw [Nat.add_mul]; omega]
          exact this
        · cases he
      · rw [List.getElem?_drop, List.getElem?_take] at he
        split at he
        · exact hx (l + i) j e d he hd
        · cases he
    split
    · rename_i hcl
      exact key ad rfl (fun j hj => by
        have : h - l = 0 := by omega
        rw [this] at hj
        omega)
    · exact key (ad.add (l * sz)) (Addr.block_add _ _) (fun j _ => rfl)
  | nil =>
    simp at hhn
    subst hhn
    obtain rfl : l = 0 := by omega
    refine ⟨none, 0, 0, rfl, rfl, by omega, fun _ => rfl, fun c' h1 h2 f' hf' => ?_⟩
    obtain rfl : c' = 0 := by omega
    simpa using Imm.nil

theorem run_bound {l y : Nat} (h : l ≤ y) (k : IntKind) (code : BoundsCode) : (Instr.sliceBound (.int k (l : Int)) y code).run P w = .ok l w := by
  have := run_sliceBound (P := P) w k l y code (by omega) (by omega)
  simpa using this
theorem slice_ok (hT : tabOk P tt = true) {t : TypeId} {x : Operand} {lo hi mx : Option Operand} {K : Option Prop → DV → Prop} (ho : o.op = .slice t x lo hi mx) (hx : Has A os w a ρ x)
    (hlo : ∀ y, lo = some y → Has A os w a ρ y) (hhi : ∀ y, hi = some y → Has A os w a ρ y) (hmx : ∀ y, mx = some y → Has A os w a ρ y) (h : dSlice tt t ρ (ρ x) lo hi mx K) : GivesSome P A os w a o K := by
  unfold dSlice at h
  split at h
  · rename_i s hk ex
    have hxv := hx.v ex
    have hu := tab_str hT hk
    split at h
    · obtain ⟨l, hh, hK⟩ := h
      refine ⟨_, _, hK, fun hc => ⟨_, ?_, .imm (.v rfl)⟩⟩
      obtain ⟨b1, b2, h1, h2⟩ := Holds.some_iff.1 hc
      have e1 := bnd_eval hlo b1
      have e2 := bnd_eval hhi b2
      have r1 := run_bound (P := P) (w := w) h1
      have r2 := run_bound (P := P) (w := w) h2
      rcases e1 with ⟨rfl, rfl⟩ | ⟨x1, k1, rfl, e1⟩ <;> rcases e2 with ⟨rfl, rfl⟩ | ⟨x2, k2, rfl, e2⟩ <;>
        first
          | simp only [execOp, ho, hxv, Option.map_some, Option.map_none, e1, e2, Instr.sliceAt, Sem.run_bind, run_underlying hu, Result.andThen_ok, Instr.slice, Instr.sliceBounds, Option.isSome_none, Bool.false_eq_true, if_false, Sem.run_pure, r1, r2]
          | simp only [execOp, ho, hxv, Option.map_some, Option.map_none, e1, Instr.sliceAt, Sem.run_bind, run_underlying hu, Result.andThen_ok, Instr.slice, Instr.sliceBounds, Option.isSome_none, Bool.false_eq_true, if_false, Sem.run_pure, r1, r2]
          | simp only [execOp, ho, hxv, Option.map_some, Option.map_none, e2, Instr.sliceAt, Sem.run_bind, run_underlying hu, Result.andThen_ok, Instr.slice, Instr.sliceBounds, Option.isSome_none, Bool.false_eq_true, if_false, Sem.run_pure, r1, r2]
          | simp only [execOp, ho, hxv, Option.map_some, Option.map_none, Instr.sliceAt, Sem.run_bind, run_underlying hu, Result.andThen_ok, Instr.slice, Instr.sliceBounds, Option.isSome_none, Bool.false_eq_true, if_false, Sem.run_pure, r1, r2]
    · exact h.elim
  · rename_i e hk ex
    have hu := tab_slc hT hk
    unfold Has at hx
    rw [ex] at hx
    split at h
    · exact h.elim
    · exact h.elim
    · rename_i hs
      refine ⟨_, _, h, fun hc => ?_⟩
      obtain ⟨b1, b2⟩ := Holds.some_iff.1 hc
      have e1 := bnd_eval hlo b1
      have e2 := bnd_eval hhi b2
      have he : a.eval x = .slice none 0 0 := hx.nl_inv
      have r1 := run_bound (P := P) (w := w) (Nat.le_refl 0)
      refine ⟨.slice none 0 0, ?_, .imm .nl⟩
      rcases e1 with ⟨rfl, _⟩ | ⟨x1, k1, rfl, e1⟩ <;> rcases e2 with ⟨rfl, _⟩ | ⟨x2, k2, rfl, e2⟩ <;> first
        | (simp [execOp, ho, he, Instr.sliceAt, run_underlying hu, Instr.slice, Instr.sliceBounds, run_sizeOf_tab hT hs]; done)
        | (simp [execOp, ho, he, e1, Instr.sliceAt, run_underlying hu, Instr.slice, Instr.sliceBounds, run_sizeOf_tab hT hs, Instr.sliceBound, asIntOf]; done)
        | (simp [execOp, ho, he, e2, Instr.sliceAt, run_underlying hu, Instr.slice, Instr.sliceBounds, run_sizeOf_tab hT hs, Instr.sliceBound, asIntOf]; done)
        | (simp [execOp, ho, he, e1, e2, Instr.sliceAt, run_underlying hu, Instr.slice, Instr.sliceBounds, run_sizeOf_tab hT hs, Instr.sliceBound, asIntOf]; done)
  · rename_i e sz es f hk ex
    have hu := tab_slc hT hk
    unfold Has at hx
    rw [ex] at hx
    have him := hx.lst_inv
    split at h
    · exact h.elim
    · exact h.elim
    · rename_i hb hs
      have hz := Nat.eq_of_beq_eq_true hb
      split at h
      · obtain ⟨l, hK⟩ := h
        refine ⟨_, _, hK, fun hc => ?_⟩
        obtain ⟨b1, h1⟩ := Holds.some_iff.1 hc
        have e1 := bnd_eval hlo b1
        obtain ⟨ad, n, c, he, hn, hle, hf, hp⟩ := lst_part (l := l) (h := es.length) him h1 (Nat.le_refl _)
        have hp := hp c hle (Nat.le_refl _) f (fun hh => by rw [hf hh, hn])
        rw [List.take_length, hz] at hp
        refine ⟨_, ?_, .imm (by rw [hz]; exact hp)⟩
        have r1 := run_bound (P := P) (w := w) h1
        rcases e1 with ⟨rfl, rfl⟩ | ⟨x1, k1, rfl, e1⟩ <;>
          first
            | simp only [execOp, ho, he, hn, Option.map_some, Option.map_none, e1, Instr.sliceAt, Sem.run_bind, run_underlying hu, Result.andThen_ok, Instr.slice, Instr.sliceBounds, Sem.run_pure, r1, run_sizeOf_tab hT hs]
            | simp only [execOp, ho, he, hn, Option.map_some, Option.map_none, Instr.sliceAt, Sem.run_bind, run_underlying hu, Result.andThen_ok, Instr.slice, Instr.sliceBounds, Sem.run_pure, r1, run_sizeOf_tab hT hs]
      · rename_i ho1
        obtain ⟨l, hh, hK⟩ := h
        refine ⟨_, _, hK, fun hc => ?_⟩
        obtain ⟨b1, b2, h1, h2⟩ := Holds.some_iff.1 hc
        have e1 := bnd_eval hlo b1
        have e2 := bnd_eval hhi b2
        obtain ⟨ad, n, c, he, hn, hle, hf, hp⟩ := lst_part (l := l) (h := hh) him h1 h2
        have hp := hp c hle (Nat.le_refl _) false (by simp)
        rw [hz] at hp
        refine ⟨_, ?_, .imm (by rw [hz]; exact hp)⟩
        have r1 := run_bound (P := P) (w := w) h1
        have r2 := run_bound (P := P) (w := w) hle
        rcases e2 with ⟨e2, _⟩ | ⟨x2, k2, e2', e2⟩
        · cases e2
        · cases e2'
          rcases e1 with ⟨rfl, rfl⟩ | ⟨x1, k1, rfl, e1⟩ <;>
            first
              | simp only [execOp, ho, he, hn, Option.map_some, Option.map_none, e1, e2, Instr.sliceAt, Sem.run_bind, run_underlying hu, Result.andThen_ok, Instr.slice, Instr.sliceBounds, Sem.run_pure, r1, r2, run_sizeOf_tab hT hs]
              | simp only [execOp, ho, he, hn, Option.map_some, Option.map_none, e2, Instr.sliceAt, Sem.run_bind, run_underlying hu, Result.andThen_ok, Instr.slice, Instr.sliceBounds, Sem.run_pure, r1, r2, run_sizeOf_tab hT hs]
      · rename_i ho1 mo1
        obtain ⟨l, hh, hK⟩ := h
        refine ⟨_, _, hK, fun hc => ?_⟩
        obtain ⟨b1, b2, b3, h1, h2⟩ := Holds.some_iff.1 hc
        have e1 := bnd_eval hlo b1
        have e2 := bnd_eval hhi b2
        have e3 := bnd_eval hmx b3
        obtain ⟨ad, n, c, he, hn, hle, hf, hp⟩ := lst_part (l := l) (h := hh) him h1 h2
        have hp := hp hh (Nat.le_refl _) hle true (fun _ => rfl)
        rw [hz] at hp
        refine ⟨_, ?_, .imm (by rw [hz]; exact hp)⟩
        have r1 := run_bound (P := P) (w := w) h1
        have r2 := run_bound (P := P) (w := w) hle
        have r3 := run_bound (P := P) (w := w) (Nat.le_refl hh)
        rcases e2 with ⟨e2, _⟩ | ⟨x2, k2, e2', e2⟩
        · cases e2
        · cases e2'
          rcases e3 with ⟨e3, _⟩ | ⟨x3, k3, e3', e3⟩
          · cases e3
          · cases e3'
            rcases e1 with ⟨rfl, rfl⟩ | ⟨x1, k1, rfl, e1⟩ <;>
              first
                | simp only [execOp, ho, he, hn, Option.map_some, Option.map_none, e1, e2, e3, Instr.sliceAt, Sem.run_bind, run_underlying hu, Result.andThen_ok, Instr.slice, Instr.sliceBounds, Sem.run_pure, r1, r2, r3, run_sizeOf_tab hT hs]
                | simp only [execOp, ho, he, hn, Option.map_some, Option.map_none, e2, e3, Instr.sliceAt, Sem.run_bind, run_underlying hu, Result.andThen_ok, Instr.slice, Instr.sliceBounds, Sem.run_pure, r1, r2, r3, run_sizeOf_tab hT hs]
      · exact h.elim
  · exact h.elim
end
end Go.Lift
