/- A data-level logic for the model: what a body does to data; its soundness (part LiftC). No conditions. -/
import Derived.Test.YtmfgjjnmfahcjaaLiftB
set_option linter.unusedSimpArgs false
set_option linter.unusedVariables false
namespace Go.Lift
open Go

/-! # The operations that only make a value -/
def Holds (c : Option Prop) : Prop := ∀ p, c = some p → p
theorem Holds.none' : Holds none := fun _ h => by cases h
theorem Holds.some_iff {p : Prop} : Holds (some p) ↔ p := ⟨fun h => h p rfl, fun h q e => by cases e; exact h⟩
theorem Holds.none_iff : Holds none ↔ True := ⟨fun _ => trivial, fun _ => Holds.none'⟩
theorem Holds.andO {c c' : Option Prop} : Holds (andO c c') ↔ Holds c ∧ Holds c' := by
  cases c <;> cases c' <;> simp only [Lift.andO, Holds.some_iff, Holds.none_iff, true_and, and_true]
theorem needs_iff {c : Option Prop} {p : Prop} : needs c p ↔ Holds c ∧ p := by
  cases c <;> simp only [needs, Holds.some_iff, Holds.none_iff, true_and]
theorem isConstTrue_eval {x : Operand} {a : Act} (h : isConstTrue x = true) : a.eval x = .bool true := by
  unfold isConstTrue at h
  split at h
  · subst h; rfl
  · exact absurd h (by simp)
theorem isConstFalse_eval {x : Operand} {a : Act} (h : isConstFalse x = true) : a.eval x = .bool false := by
  unfold isConstFalse at h
  split at h
  · rename_i b
    cases b
    · rfl
    · exact absurd h (by simp)
  · exact absurd h (by simp)

section
variable {P : Program} {tt : TT} {A : Nat → Prop} {os : Objs} {w : World} {a : Act} {o : Oper} {ρ : Operand → DV}

def Gives (P : Program) (A : Nat → Prop) (os : Objs) (w : World) (a : Act) (o : Oper) (c : Option Prop) (d : DV) : Prop :=
  Holds c → ∃ x, (execOp a.eval o).run P w = .ok (.value x) w ∧ RepV A os w x d
def GivesSome (P : Program) (A : Nat → Prop) (os : Objs) (w : World) (a : Act) (o : Oper) (K : Option Prop → DV → Prop) : Prop :=
  ∃ c d, K c d ∧ Gives P A os w a o c d
theorem run_v {s : Sem Value} {x : Value} (h : s.run P w = .ok x w) : (do pure (Next.value (← s)) : Sem Next).run P w = .ok (.value x) w := by
  simp [h]

abbrev Has (A : Nat → Prop) (os : Objs) (w : World) (a : Act) (ρ : Operand → DV) (x : Operand) : Prop := RepV A os w (a.eval x) (ρ x)
theorem Has.v {x : Operand} {y : Value} (h : Has A os w a ρ x) (e : ρ x = .v y) : a.eval x = y := by
  unfold Has at h; rw [e] at h; exact h.v_inv.1

theorem move_ok {x : Operand} {K : Option Prop → DV → Prop} (ho : o.op = .move x ∨ o.op = .assign x) (hx : Has A os w a ρ x) (h : frc (ρ x) fun d => K none d) : GivesSome P A os w a o K := by
  refine ⟨none, _, frc_iff.1 h, fun _ => ⟨_, ?_, hx⟩⟩
  rcases ho with ho | ho <;> simp [execOp, ho]

theorem obl_elim {b : Bool} {d : DV} {K : Option Prop → DV → Prop} (h : obl b d K) : ∃ c d', K c d' ∧ ∀ x, Holds c → b = true → RepV A os w x d → RepV A os w x d' := by
  cases d
  case wh g d =>
    refine ⟨_, _, h, fun x hc hb hr => ?_⟩
    exact hr.wh_inv.1 (Holds.some_iff.1 hc hb)
  all_goals exact ⟨_, _, h, fun x _ _ hr => hr⟩
theorem dpickV_elim {c : Bool} {x y : DV} {ka kb : Bool} {K : DV → Prop} (h : dpickV c x y ka kb K) :
    ∃ p q r, x = .v (.bool p) ∧ y = .v (.bool q) ∧ K (.v (.bool r)) ∧ ((ka = true → c = true → p = true) → (kb = true → c = false → q = false) → r = if c then p else q) := by
  unfold dpickV at h
  split at h
  · rename_i p q
    split at h
    · refine ⟨p, q, _, rfl, rfl, h, fun h1 _ => ?_⟩
      cases c
      · simp
      · simp [h1 rfl rfl]
    · refine ⟨p, q, _, rfl, rfl, h, fun _ h2 => ?_⟩
      cases c
      · simp [h2 rfl rfl]
      · simp
    · exact ⟨p, q, _, rfl, rfl, h, fun _ _ => by cases c <;> rfl⟩
  · exact h.elim
theorem pick_ok {c x y : Operand} {K : Option Prop → DV → Prop} (ho : o.op = .pick c x y) (hc : Has A os w a ρ c) (hx : Has A os w a ρ x) (hy : Has A os w a ρ y) (h : dPick ρ c x y K) : GivesSome P A os w a o K := by
  unfold dPick at h
  split at h
  · rename_i t et
    obtain ⟨c1, x', h, k1⟩ := obl_elim (A := A) (os := os) (w := w) h
    obtain ⟨c2, y', h, k2⟩ := obl_elim (A := A) (os := os) (w := w) h
    obtain ⟨p, q, r, e1, e2, h, hr⟩ := dpickV_elim (frc_iff.1 (frc_iff.1 h))
    refine ⟨_, _, h, fun hh => ?_⟩
    obtain ⟨hc1, hc2⟩ := Holds.andO.1 hh
    have ec := hc.v et
    have hxv : t = true → a.eval x = .bool p := fun ht => by have := k1 _ hc1 ht hx; rw [e1] at this; exact this.v_inv.1
    have hyv : t = false → a.eval y = .bool q := fun ht => by have := k2 _ hc2 (by simp [ht]) hy; rw [e2] at this; exact this.v_inv.1
    have hr' := hr (fun hk ht => by
      have := hxv ht
      rw [isConstTrue_eval hk] at this
      injection this with this
      exact this.symm) (fun hk ht => by
      have := hyv ht
      rw [isConstFalse_eval hk] at this
      injection this with this
      exact this.symm)
    refine ⟨.bool r, ?_, .imm (.v rfl)⟩
    simp only [execOp, ho, ec, asBool, Sem.run_bind, Sem.run_pure, Result.andThen_ok]
    rw [hr']
    cases t
    · simp [hyv rfl]
    · simp [hxv rfl]
  · exact h.elim

theorem isRow_os {os : Objs} {i : Nat} (h : isRow (lget (os.map (·.2)) i) = true) : ∃ x e sz es, os[i]? = some (x, .row e sz es) := by
  rw [lget_eq, List.getElem?_map] at h
  cases hi : os[i]? with
  | none => rw [hi] at h; simp [isRow] at h
  | some p =>
    obtain ⟨x, o⟩ := p
    rw [hi] at h
    cases o <;> simp [isRow] at h
    exact ⟨_, _, _, _, rfl⟩
theorem isCells_os {os : Objs} {i : Nat} (h : isCells (lget (os.map (·.2)) i) = true) : ∃ x t cs, os[i]? = some (x, .cells t cs) := by
  rw [lget_eq, List.getElem?_map] at h
  cases hi : os[i]? with
  | none => rw [hi] at h; simp [isCells] at h
  | some p =>
    obtain ⟨x, o⟩ := p
    rw [hi] at h
    cases o <;> simp [isCells] at h
    exact ⟨_, _, _, rfl⟩
theorem nilCheck_ok {x : Operand} {K : Option Prop → DV → Prop} (ho : o.op = .nilCheck x) (hx : Has A os w a ρ x) (h : dNilCheck (os.map (·.2)) (ρ x) K) : GivesSome P A os w a o K := by
  unfold Has at hx
  unfold dNilCheck at h
  split at h
  · rename_i e
    rw [e] at hx
    refine ⟨_, _, h, fun _ => ⟨a.eval x, ?_, hx⟩⟩
    obtain ⟨g, t, cs, _, ex⟩ := hx.lp_inv
    simp [execOp, ho, ex]
  · rename_i e
    rw [e] at hx
    refine ⟨_, _, h, fun _ => ⟨a.eval x, ?_, hx⟩⟩
    obtain ⟨g, t, cs, _, ex⟩ := hx.ap_inv
    simp [execOp, ho, ex]
  · rename_i e
    rw [e] at hx
    split at h
    · rename_i hr
      refine ⟨_, _, h, fun _ => ⟨a.eval x, ?_, hx⟩⟩
      obtain ⟨_, _, _, _, hi⟩ := isRow_os hr
      obtain ⟨g, n, c, _, ex⟩ := hx.rp_row hi
      simp [execOp, ho, ex]
    · exact h.elim
  · rename_i e
    rw [e] at hx
    refine ⟨_, _, h, fun _ => ⟨a.eval x, ?_, hx⟩⟩
    have hi := hx.ip_inv
    generalize hy : a.eval x = y at *
    cases hi
    simp [execOp, ho, hy]
  · rename_i e
    rw [e] at hx
    refine ⟨_, _, h, fun _ => ⟨a.eval x, ?_, hx⟩⟩
    obtain ⟨vs, hy, _⟩ := hx.fn_inv
    simp [execOp, ho, hy]
  · exact h.elim

theorem un_ok {op : UnOp} {t : TypeId} {x : Operand} {K : Option Prop → DV → Prop} (ho : o.op = .unOp op t x) (hx : Has A os w a ρ x) (h : dUn op (ρ x) K) : GivesSome P A os w a o K := by
  unfold dUn at h
  split at h
  · rename_i e
    exact ⟨_, _, h, fun _ => ⟨_, by simp [execOp, ho, hx.v e, Op.unary], .imm (.v rfl)⟩⟩
  · rename_i e
    exact ⟨_, _, h, fun _ => ⟨_, by simp [execOp, ho, hx.v e, Op.unary, Op.intArith], .imm (.v rfl)⟩⟩
  · rename_i e
    exact ⟨_, _, h, fun _ => ⟨_, by simp only [execOp, ho, hx.v e, Op.unary, intBits_xor, Sem.run_bind, Sem.run_pure, Result.andThen_ok], .imm (.v rfl)⟩⟩
  · exact h.elim

theorem beq_bytes (x y : ByteArray) : (x.toList == y.toList) = decide (x = y) := by
  rw [ByteArray.toList_eq, ByteArray.toList_eq, Bool.eq_iff_iff]
  obtain ⟨⟨x⟩⟩ := x
  obtain ⟨⟨y⟩⟩ := y
  simp

theorem dInt_ok {op : BinOp} {t u : TypeId} {x y : Operand} {k : IntKind} {p q : Int} {K : Option Prop → DV → Prop} (ho : o.op = .binOp op t x y u) (hx : a.eval x = .int k p) (hy : a.eval y = .int k q) (h : dInt op k p q K) : GivesSome P A os w a o K := by
  cases op <;> simp only [dInt] at h <;> first
    | exact h.elim
    | (refine ⟨_, _, h, fun hc => ⟨_, ?_, .imm (.v rfl)⟩⟩
       simp only [execOp, ho, hx, hy, eqGuard_at_int, binOp, ne_eq, not_true_eq_false, if_false, Op.intArith, Op.intDiv, Op.intCmp, intBits_and, intBits_or, intBits_xor, intBits_andNot, Sem.run_bind, Sem.run_pure, Result.andThen_ok]
       try (rw [if_neg (Holds.some_iff.1 hc)])
       try simp only [Sem.run_pure, Result.andThen_ok]
       try rfl)
theorem dShift_ok {op : BinOp} {t u : TypeId} {x y : Operand} {k k' : IntKind} {p q : Int} {K : Option Prop → DV → Prop} (ho : o.op = .binOp op t x y u) (hx : a.eval x = .int k p) (hy : a.eval y = .int k' q) (h : dShift op k p q K) : GivesSome P A os w a o K := by
  cases op <;> simp only [dShift] at h <;> first
    | exact h.elim
    | (refine ⟨_, _, h, fun hc => ⟨_, ?_, .imm (.v rfl)⟩⟩
       have hq : ¬ q < 0 := by have := Holds.some_iff.1 hc; omega
       simp only [execOp, ho, hx, hy, eqGuard_at_int, binOp, Op.shift, if_neg hq, Sem.run_bind, Sem.run_pure, Result.andThen_ok])
theorem dStr_ok {op : BinOp} {t u : TypeId} {x y : Operand} {p q : ByteArray} {K : Option Prop → DV → Prop} (ho : o.op = .binOp op t x y u) (hx : a.eval x = .string p) (hy : a.eval y = .string q) (h : dStr op p q K) : GivesSome P A os w a o K := by
  cases op <;> simp only [dStr] at h <;> first
    | exact h.elim
    | (refine ⟨_, _, h, fun hc => ⟨_, ?_, .imm (.v rfl)⟩⟩
       simp only [execOp, ho, hx, hy, eqGuard_at_string, binOp, Op.stringOp, beq_bytes, Sem.run_bind, Sem.run_pure, Result.andThen_ok])
theorem dBool_ok (hT : tabOk P tt = true) {op : BinOp} {t u : TypeId} {x y : Operand} {p q : Bool} {K : Option Prop → DV → Prop} (ho : o.op = .binOp op t x y u) (hx : a.eval x = .bool p) (hy : a.eval y = .bool q) (ht : (tinfo tt t).k = .bool) (h : dBool op p q K) : GivesSome P A os w a o K := by
  have hu := tab_bool hT ht
  cases op <;> simp only [dBool] at h <;> first
    | exact h.elim
    | (refine ⟨_, _, h, fun hc => ⟨_, ?_, .imm (.v rfl)⟩⟩
       simp only [execOp, ho, hx, hy, eqGuard_at_bool, run_eql_bool w t p q hu, run_neq_bool w t p q hu, Sem.run_bind, Sem.run_pure, Result.andThen_ok])
end
end Go.Lift
