/- A data-level logic for the model: what a body does to data; its soundness (part LiftJ). No conditions. -/
import Derived.Test.YtmfgjjnmfahcjaaLiftI
set_option linter.unusedSimpArgs false
set_option linter.unusedVariables false
namespace Go.Lift
open Go

/-! # Guards, lists of operations, code -/
section
variable {P : Program} {tt : TT} {A0 : Nat → Prop} {w0 : Home} {n : Nat} {os : Objs} {s : DS} {a : Act} {w : World} {o : Oper} {K : DS → Prop} {A : Nat → Prop} {B : Nat} {ρ : Operand → DV} {loc : List LObj} {Q : Option Prop → DV → Prop}

theorem some_ex {c : Option Prop} {d : DV} (h : Q c d) : ∃ c d, Q c d := ⟨c, d, h⟩
theorem frc_ex {d : DV} {c : DV → Option Prop} (h : frc d fun d => Q (c d) d) : ∃ c d, Q c d := ⟨c d, d, (frc_iff (K := fun d => Q (c d) d)).1 h⟩
theorem take_ex {agg : Bool} {size : Nat} {l : List DV} {R : DV → Prop} (h : dTake agg size l R) : ∃ d, R d := by
  unfold dTake at h
  split at h
  · exact ⟨_, (takeK_elim h).2⟩
  · split at h
    · exact ⟨_, frc_iff.1 h⟩
    · exact h.elim
theorem buildK_ex {place : Nat → Nat × Nat} {R : List DV → Prop} : ∀ {parts : List (Nat × Operand)} {cs : List DV}, buildK ρ place parts cs R → ∃ l, R l
  | [], cs, h => ⟨cs, h⟩
  | (i, x) :: r, cs, h => by
    have h := frc_iff.1 h
    split at h
    · exact h.elim
    · exact h.elim
    · exact h.elim
    · split at h
      · exact buildK_ex h
      · exact h.elim
theorem obl_ex {b : Bool} {d : DV} {R : Option Prop → DV → Prop} (h : obl b d R) : ∃ c d, R c d := by
  unfold obl at h
  split at h <;> exact ⟨_, _, h⟩
theorem pick_ex {c x y : Operand} (h : dPick ρ c x y Q) : ∃ c d, Q c d := by
  unfold dPick at h
  split at h
  · obtain ⟨c1, x', h⟩ := obl_ex h
    obtain ⟨c2, y', h⟩ := obl_ex h
    obtain ⟨_, _, _, _, _, h, _⟩ := dpickV_elim (frc_iff.1 (frc_iff.1 h))
    exact ⟨_, _, h⟩
  · exact h.elim
theorem bin_ex {t : TypeId} {op : BinOp} {x y : DV} (h : dbin tt t op x y Q) : ∃ c d, Q c d := by
  unfold dbin at h
  split at h
  · split at h
    · unfold dShift at h; split at h <;> first | exact h.elim | exact ⟨_, _, h⟩
    · split at h
      · unfold dInt at h; split at h <;> first | exact h.elim | exact ⟨_, _, h⟩
      · exact h.elim
  · unfold dStr at h; split at h <;> first | exact h.elim | exact ⟨_, _, h⟩
  · split at h
    · unfold dBool at h; split at h <;> first | exact h.elim | exact ⟨_, _, h⟩
    · exact h.elim
  · unfold dAgg at h
    split at h
    · split at h
      · obtain ⟨_, _, _, _, _, _, h⟩ := eqCells_elim h; exact ⟨_, _, h⟩
      · obtain ⟨_, _, _, _, _, _, h⟩ := eqCells_elim h; exact ⟨_, _, h⟩
      · exact h.elim
    · exact h.elim
  · exact h.elim
theorem dval_ex {op : Op} (h : dval tt loc op ρ Q) : ∃ c d, Q c d := by
  unfold dval at h
  split at h
  · exact ⟨_, _, frc_iff.1 h⟩
  · exact ⟨_, _, frc_iff.1 h⟩
  · exact pick_ex h
  · unfold dNilCheck at h; split at h <;> first | exact h.elim | exact ⟨_, _, h⟩ | (split at h <;> first | exact h.elim | exact ⟨_, _, h⟩)
  · exact bin_ex h
  · unfold dUn at h; split at h <;> first | exact h.elim | exact ⟨_, _, h⟩
  · unfold dConvert at h
    split at h
    · exact ⟨_, _, h⟩
    · exact ⟨_, _, h⟩
    · split at h
      · obtain ⟨_, h⟩ := h; exact ⟨_, _, h⟩
      · exact h.elim
    · exact h.elim
  · unfold dFieldAddr at h
    split at h
    · split at h
      · exact h.elim
      · split at h
        · exact ⟨_, _, h⟩
        · exact ⟨_, _, h⟩
        · split at h <;> first | exact h.elim | exact ⟨_, _, h⟩
        · exact ⟨_, _, (dropK_elim h).2⟩
        · exact h.elim
    · exact h.elim
  · unfold dField at h
    split at h
    · split at h
      · exact h.elim
      · split at h
        · obtain ⟨_, h⟩ := take_ex (dropK_elim h).2; exact ⟨_, _, h⟩
        · exact h.elim
    · exact h.elim
  · unfold dIndexAddr at h
    split at h
    · split at h
      · exact h.elim
      · unfold dIndexSlc at h
        split at h
        · split at h
          · obtain ⟨_, _, h⟩ := h; exact ⟨_, _, h⟩
          · exact h.elim
        · split at h
          · split at h
            · obtain ⟨_, h⟩ := h; exact ⟨_, _, h⟩
            · exact h.elim
          · exact h.elim
        · exact h.elim
    · split at h
      · exact h.elim
      · unfold dIndexArr at h
        split at h
        · split at h <;> first | exact h.elim | exact ⟨_, _, h⟩
        · split at h
          · obtain ⟨_, h⟩ := h; exact ⟨_, _, h⟩
          · obtain ⟨_, h⟩ := h; exact ⟨_, _, h⟩
          · exact h.elim
    · exact h.elim
  · unfold dIndex at h
    split at h
    · split at h
      · obtain ⟨_, h⟩ := h; exact ⟨_, _, h⟩
      · split at h
        · obtain ⟨_, _, h⟩ := h; exact frc_ex h
        · exact h.elim
      · exact h.elim
    · exact h.elim
  · unfold dLoad at h
    split at h
    · exact h.elim
    · split at h
      · obtain ⟨_, h⟩ := take_ex h; exact ⟨_, _, h⟩
      · split at h
        · obtain ⟨_, h⟩ := take_ex (dropK_elim h).2; exact ⟨_, _, h⟩
        · exact h.elim
      · split at h
        · split at h
          · obtain ⟨_, h⟩ := h; exact ⟨_, _, h⟩
          · obtain ⟨_, h⟩ := h; exact frc_ex h
        · exact h.elim
      · split at h
        · obtain ⟨_, h⟩ := h
          obtain ⟨_, h⟩ := take_ex (dropK_elim h).2; exact ⟨_, _, h⟩
        · exact h.elim
      · exact h.elim
  · unfold dExtract at h
    split at h
    · have h := (dropK_elim h).2
      split at h
      · exact ⟨_, _, frc_iff.1 h⟩
      · exact h.elim
    · exact h.elim
  · unfold dSlice at h
    split at h
    · split at h
      · obtain ⟨_, _, h⟩ := h; exact ⟨_, _, h⟩
      · exact h.elim
    · split at h <;> first | exact h.elim | exact ⟨_, _, h⟩
    · split at h
      · exact h.elim
      · exact h.elim
      · split at h
        · obtain ⟨_, h⟩ := h; exact ⟨_, _, h⟩
        · obtain ⟨_, _, h⟩ := h; exact ⟨_, _, h⟩
        · obtain ⟨_, _, h⟩ := h; exact ⟨_, _, h⟩
        · exact h.elim
    · exact h.elim
  · split at h
    · have h := evL_elim h
      split at h
      · exact ⟨_, _, h⟩
      · exact h.elim
    · exact h.elim
  · unfold dBuild at h
    split at h
    · split at h
      · obtain ⟨_, h⟩ := buildK_ex h; exact ⟨_, _, h⟩
      · exact h.elim
    · split at h
      · obtain ⟨_, h⟩ := buildK_ex h; exact ⟨_, _, h⟩
      · exact h.elim
    · exact h.elim
  · split at h
    · unfold dLen at h
      split at h
      · split at h
        · exact ⟨_, _, h⟩
        · exact ⟨_, _, h⟩
        · split at h <;> first | exact h.elim | exact ⟨_, _, h⟩
        · exact h.elim
      · split at h <;> first | exact h.elim | exact ⟨_, _, h⟩
      · exact ⟨_, _, h⟩
      · exact h.elim
    · exact h.elim
  · split at h
    · unfold dMin at h; split at h <;> first | exact h.elim | exact ⟨_, _, h⟩
    · exact h.elim
  · split at h
    · unfold dMax at h; split at h <;> first | exact h.elim | exact ⟨_, _, h⟩
    · exact h.elim
  · exact h.elim

theorem lendC_ex {d : DV} {R : DV → Prop} (h : lendC loc d R) : ∃ d, R d := by
  unfold lendC at h
  split at h
  · split at h
    · split at h
      · exact ⟨_, h⟩
      · exact h.elim
    · exact h.elim
  · exact ⟨_, h⟩
theorem lendCs_ex : ∀ {ds : List DV} {R : List DV → Prop}, lendCs loc ds R → ∃ l, R l
  | [], R, h => ⟨_, h⟩
  | d :: r, R, h => by
    obtain ⟨_, h⟩ := lendC_ex h
    obtain ⟨_, h⟩ := lendCs_ex h
    exact ⟨_, h⟩
theorem lend0_ex {d : DV} {R : DV → Prop} (h : lend0 loc d R) : ∃ d, R d := by
  unfold lend0 at h
  split at h
  · split at h
    · exact ⟨_, h⟩
    · exact h.elim
  · split at h
    · split at h
      · exact ⟨_, h⟩
      · exact h.elim
    · exact h.elim
  · obtain ⟨_, h⟩ := lendCs_ex h; exact ⟨_, h⟩
  all_goals first | exact h.elim | exact ⟨_, h⟩
theorem lendL_ex : ∀ {ds : List DV} {R : List DV → Prop}, lendL loc ds R → ∃ l, R l
  | [], R, h => ⟨_, h⟩
  | d :: r, R, h => by
    obtain ⟨_, h⟩ := lend0_ex h
    obtain ⟨_, h⟩ := lendL_ex h
    exact ⟨_, h⟩
theorem lend_ex {d : DV} {R : DV → Prop} (h : lend loc d R) : ∃ d, R d := by
  unfold lend at h
  split at h
  · obtain ⟨_, h⟩ := lendL_ex h; exact ⟨_, h⟩
  · exact lend0_ex h
theorem lendA_ex : ∀ {ds : List DV} {R : List DV → Prop}, lendA loc ds R → ∃ l, R l
  | [], R, h => ⟨_, h⟩
  | d :: r, R, h => by
    obtain ⟨_, h⟩ := lend_ex h
    obtain ⟨_, h⟩ := lendA_ex h
    exact ⟨_, h⟩
theorem oblAll_ex {g : Bool} : ∀ {l : List Operand} {R : Option Prop → Prop}, oblAll g s l R → ∃ c, R c
  | [], R, h => ⟨_, h⟩
  | x :: r, R, h => by
    unfold oblAll at h
    split at h
    · obtain ⟨_, h⟩ := oblAll_ex h; exact ⟨_, h⟩
    · exact oblAll_ex h
theorem oblAll_ok {g : Bool} (h : Rep A0 w0 n os s a w) : ∀ {l : List Operand} {R : Option Prop → Prop}, oblAll g s l R → ∃ c, R c ∧ (Holds c → g = true → ∀ x ∈ l, RepV (avoid A0 os) os w (a.eval x) (bare s x))
  | [], R, hR => ⟨_, hR, fun _ _ x hx => by simp at hx⟩
  | x :: r, R, hR => by
    unfold oblAll at hR
    have hx := h.ev x
    split at hR
    · rename_i g' d e
      obtain ⟨c, hR, hc⟩ := oblAll_ok h hR
      refine ⟨_, hR, fun hh hg y hy => ?_⟩
      obtain ⟨h1, h2⟩ := Holds.andO.1 hh
      rcases List.mem_cons.1 hy with rfl | hy
      · unfold bare
        rw [e] at hx ⊢
        exact hx.wh_inv.1 (Holds.some_iff.1 h1 hg)
      · exact hc h2 hg y hy
    · rename_i hnw
      obtain ⟨c, hR, hc⟩ := oblAll_ok h hR
      refine ⟨_, hR, fun hh hg y hy => ?_⟩
      rcases List.mem_cons.1 hy with rfl | hy
      · have : bare s y = ev s y := by
          unfold bare
          generalize ev s y = d at hnw
          cases d <;> first | rfl | exact absurd rfl (hnw _ _)
        rw [this]
        exact hx
      · exact hc hh hg y hy

theorem dguard0_true (hT : tabOk P tt = true) (h0 : (tinfo tt 0).size = 0) {E : Exit → Act → World → Prop} (h : Rep A0 w0 n os s a w) (hd : ∀ t, o.dst = some t → t < n) (hK : dguard0 tt P o true s K) : o.wp P a w (Nx A0 w0 n K) E := by
  unfold dguard0 at hK
  split at hK
  · obtain ⟨c0, hK, hc0⟩ := oblAll_ok h hK
    rw [h.loc] at hK
    obtain ⟨_, _, hK2⟩ := dval_ex hK
    have hh := Holds.andO.1 (needs_iff.1 hK2).1
    obtain ⟨c, d, hK, hg⟩ := dval_ok hT h0 h.obj (ρ := bare s) (a := a) (hc0 hh.1 rfl) hK
    obtain ⟨hc, hK⟩ := needs_iff.1 hK
    have hcc : Holds c := by
      have := (Holds.andO.1 hc).2
      cases c with
      | none => exact Holds.none'
      | some p => exact Holds.some_iff.2 (Holds.some_iff.1 this rfl)
    obtain ⟨x, hrun, hr⟩ := hg hcc
    exact wp_value hrun (Nx.put h hd (.wh (fun _ => hr) (fun e => by cases e)) hK)
  · split at hK
    · rename_i f args ats ho
      split at hK
      · rename_i k caps ef
        obtain ⟨c0, hK, hc0⟩ := oblAll_ok h hK
        have hK := evL_elim hK
        have hh : Holds c0 := by
          obtain ⟨l1, _, _, _, _, hn⟩ := lendA_ex hK
          exact (needs_iff.1 hn).1
        have hops := hc0 hh rfl
        have hf := hops f (by rw [ho]; simp [Op.operands, Call.operands])
        rw [ef] at hf
        obtain ⟨vs, hv, hl, hp⟩ := hf.fn_inv
        obtain ⟨h1, h2⟩ := args_rep (os := os) (A := avoid A0 os) (w := w) (a := a) (l := args.toList) (ρ := bare s) rfl (fun x hx => hops x (by rw [ho]; simp only [Op.operands, Call.operands]; simp only [Array.toList_append, List.mem_append]; exact .inr hx)) hl hp
        obtain ⟨l1, ⟨l', r, hle, hret, hK⟩, hall⟩ := lendA_ok (J := ownIx (owns (args.toList.map (bare s) ++ caps))) h _ _ h1 h2 (fun d j hd hj => own_ix hd hj) hK
        have hret := hret rfl
        have hK := (needs_iff.1 hK).2
        unfold Oper.wp
        rw [call_exec ho hv hret.1]
        refine (hret.2 _ w _ (fun b hb => ?_) (hall.le hle)).mono fun e w' he => ?_
        · rcases hb with hb | ⟨i, x, o', hi, hd, _, hbb⟩
          · exact h.a0_lt hb
          · exact ((h.obj i x o' hi).blk_ge hd hbb).2
        · obtain ⟨v, rfl, hi, hg⟩ := he
          cases hows : owns (args.toList.map (bare s) ++ caps) with
          | nil =>
            rw [hows] at hK hi
            refine Nx.put (h.grown hg) hd (.wh (fun _ => .imm (hi.keep (Keeps.less (fun b hb => ?_)))) (fun e => by cases e)) hK
            rcases hb with hb | ⟨i, x, o', hi, hd, hbb⟩
            · exact .inl hb
            · exact .inr ⟨i, x, o', hi, hd, by simp [ownIx], hbb⟩
          | cons d ds =>
            rw [hows] at hK hi
            simp only at hK
            split at hK
            · rename_i hs
              exact Nx.put (h.grown hg) hd (.wh (fun _ => .imm (scalar_imm hs hi)) (fun e => by cases e)) hK
            · exact hK.elim
      · exact hK.elim
    · exact dop_ok hT h0 h hd (hK.1 rfl)
/-- what is passed over: its slot holds nothing -/
theorem dguard0_false {g : Bool} (h : Rep A0 w0 n os s a w) (hg : g = false) (hd : ∀ t, o.dst = some t → t < n) (hK : dguard0 tt P o g s K) : Nx A0 w0 n K (a.put o.dst undef) w := by
  subst hg
  have gone : ∀ {d : DV}, putK s o.dst (.wh false d) K → Nx A0 w0 n K (a.put o.dst undef) w := fun hK => Nx.put h hd rep_gone hK
  unfold dguard0 at hK
  split at hK
  · obtain ⟨_, hK⟩ := oblAll_ex hK
    obtain ⟨_, _, hK⟩ := dval_ex hK
    exact gone (needs_iff.1 hK).2
  · split at hK
    · split at hK
      · obtain ⟨_, hK⟩ := oblAll_ex hK
        obtain ⟨l1, l', r, _, _, hK⟩ := lendA_ex (evL_elim hK)
        have hK := (needs_iff.1 hK).2
        split at hK
        · exact gone hK
        · split at hK
          · exact gone hK
          · exact hK.elim
      · exact hK.elim
    · exact gone (hK.2 rfl)

theorem dgPick_ex {g : Bool} {c x y : Operand} (h : dgPick s g c x y Q) : ∃ c d, Q c d := by
  unfold dgPick at h
  obtain ⟨_, h⟩ := oblAll_ex h
  split at h
  · obtain ⟨c1, x', h⟩ := obl_ex h
    obtain ⟨c2, y', h⟩ := obl_ex h
    obtain ⟨_, _, _, _, _, h, _⟩ := dpickV_elim (frc_iff.1 (frc_iff.1 h))
    exact ⟨_, _, h⟩
  · exact h.elim
theorem dgPick_ok {c x y : Operand} (ho : o.op = .pick c x y) (ho0 : ∀ {R : Option Prop → Prop}, oblAll true s [c] R → ∃ c0, R c0 ∧ (Holds c0 → RepV A os w (a.eval c) (bare s c)))
    (hx : RepV A os w (a.eval x) (ev s x)) (hy : RepV A os w (a.eval y) (ev s y)) (h : dgPick s true c x y Q) : GivesSome P A os w a o Q := by
  unfold dgPick at h
  obtain ⟨c0, h, hc⟩ := ho0 h
  split at h
  · rename_i t et
    obtain ⟨c1, x', h, k1⟩ := obl_elim (A := A) (os := os) (w := w) h
    obtain ⟨c2, y', h, k2⟩ := obl_elim (A := A) (os := os) (w := w) h
    obtain ⟨p, q, r, e1, e2, h, hr⟩ := dpickV_elim (frc_iff.1 (frc_iff.1 h))
    refine ⟨_, _, h, fun hh => ?_⟩
    obtain ⟨hc0, hh⟩ := Holds.andO.1 hh
    obtain ⟨hc1, hc2⟩ := Holds.andO.1 hh
    have ec := hc hc0
    rw [et] at ec
    have ec := ec.v_inv.1
    have hxv : t = true → a.eval x = .bool p := fun ht => by have := k1 _ hc1 (by simp [ht]) hx; rw [e1] at this; exact this.v_inv.1
    have hyv : t = false → a.eval y = .bool q := fun ht => by have := k2 _ hc2 (by simp [ht]) hy; rw [e2] at this; exact this.v_inv.1
    have hr' := hr (fun hk ht => by
      have := hxv ht
      rw [isConstTrue_eval hk] at this
      injection this with this
      exact this.symm) (fun hk ht => by
      have := hyv ht
      rw [isConstFalse_eval hk] at this
      injection this with this
      exact this.symm)
    refine ⟨.bool r, ?_, .imm (.v rfl)⟩
    simp only [execOp, ho, ec, asBool, Sem.run_bind, Sem.run_pure, Result.andThen_ok]
    rw [hr']
    cases t
    · simp [hyv rfl]
    · simp [hxv rfl]
  · exact h.elim
theorem dguard_true (hT : tabOk P tt = true) (h0 : (tinfo tt 0).size = 0) {E : Exit → Act → World → Prop} (h : Rep A0 w0 n os s a w) (hd : ∀ t, o.dst = some t → t < n) (hK : dguard tt P o true s K) : o.wp P a w (Nx A0 w0 n K) E := by
  unfold dguard at hK
  split at hK
  · rename_i c x y ho
    obtain ⟨c, d, hK, hg⟩ := dgPick_ok (P := P) (A := avoid A0 os) (os := os) (w := w) (a := a) ho (fun hR => by
      obtain ⟨c0, hR, hh⟩ := oblAll_ok h hR
      exact ⟨c0, hR, fun hc => hh hc rfl _ (by simp)⟩) (h.ev x) (h.ev y) hK
    obtain ⟨hc, hK⟩ := needs_iff.1 hK
    obtain ⟨x, hrun, hr⟩ := hg hc
    exact wp_value hrun (Nx.put h hd (.wh (fun _ => hr) (fun e => by cases e)) hK)
  · exact dguard0_true hT h0 h hd hK
theorem dguard_false {g : Bool} (h : Rep A0 w0 n os s a w) (hg : g = false) (hd : ∀ t, o.dst = some t → t < n) (hK : dguard tt P o g s K) : Nx A0 w0 n K (a.put o.dst undef) w := by
  unfold dguard at hK
  split at hK
  · obtain ⟨_, _, hK⟩ := dgPick_ex hK
    subst hg
    exact Nx.put h hd rep_gone (needs_iff.1 hK).2
  · exact dguard0_false h hg hd hK

/-! ## a region in the text's order -/
/-- the frame has room for every slot that is written -/
def dstOk (n : Nat) (o : Oper) : Bool :=
  match o.dst with
  | some t => Nat.blt t n
  | none => true
theorem dstOk_lt (h : dstOk n o = true) : ∀ t, o.dst = some t → t < n := by
  intro t e
  unfold dstOk at h
  rw [e] at h
  exact Nat.le_of_ble_eq_true h
theorem wantK_iff {b want : Bool} {R : Bool → Prop} : wantK b want R ↔ R (if want then b else !b) := by cases want <;> exact Iff.rfl
theorem dops_ok (hT : tabOk P tt = true) (h0 : (tinfo tt 0).size = 0) {ops : Array Oper} {E : Exit → Act → World → Prop} {K : DS → Prop} (hE : ∀ a w, Nx A0 w0 n K a w → E .normal a w) :
    ∀ (l : List Oper) {os : Objs} {s : DS} {a : Act} {w : World}, l.all (dstOk n) = true → Rep A0 w0 n os s a w → dops tt P ops.toList l K s → wpList P ops E l a w
  | [], os, s, a, w, _, h, hK => hE a w ⟨os, s, h, hK⟩
  | o :: r, os, s, a, w, hl, h, hK => by
    simp only [List.all_cons, Bool.and_eq_true] at hl
    have hd := dstOk_lt hl.1
    have next : ∀ a w, Nx A0 w0 n (fun s => dops tt P ops.toList r K s) a w → wpList P ops E r a w := fun a w ⟨os, s, h, hK⟩ => dops_ok hT h0 hE r hl.2 h hK
    unfold dops at hK
    refine wpList_step fun K' hK' => ?_
    have step : ∀ {a : Act} {w : World}, o.wp P a w (Nx A0 w0 n (fun s => dops tt P ops.toList r K s)) E → o.wp P a w K' E := by
      intro a w hwp
      have mono : ∀ {next next' : Act → World → Prop}, (∀ a w, next a w → next' a w) → o.wp P a w next E → o.wp P a w next' E := by
        intro next next' hn hwp
        unfold Oper.wp at hwp ⊢
        unfold Oper.upon at hwp ⊢
        split at hwp
        · exact hn _ _ hwp
        · exact hn _ _ hwp
        · exact hn _ _ hwp
        · refine hwp.mono fun e w' he => ?_
          cases e with
          | returned v => exact hn _ _ he
          | panicked c => exact he
          | outgrown => exact he
        · exact hwp.mono fun v w' he => hn _ _ he
        · exact hwp
        · exact hwp.elim
      exact mono (fun a w hN => hK' a w (next a w hN)) hwp
    split at hK
    · rename_i hg
      rw [if_pos (by simp [Region.wanted, hg])]
      exact step (dop_ok hT h0 h hd hK)
    · rename_i j want hg
      have hy : ∀ d, guardOf ops.toList s j = d → d ≠ .junk → ∃ t, (ops[j]?).bind (·.dst) = some t ∧ look s.env t = d := by
        intro d e hj
        unfold guardOf at e
        split at e
        · rename_i oj hoj
          split at e
          · rename_i t ht
            exact ⟨t, by simp only [Array.getElem?_toList] at hoj; simp [hoj, ht], e⟩
          · exact absurd e.symm hj
        · exact absurd e.symm hj
      split at hK
      · rename_i b e
        obtain ⟨t, ht, hlk⟩ := hy _ e (by simp)
        have hv := h.env t
        rw [hlk] at hv
        have hv := hv.v_inv.1
        have hyl : yielded ops a.tmps j = some b := by
          have hlt : t < a.tmps.size := by
            rcases Nat.lt_or_ge t a.tmps.size with hlt | hge
            · exact hlt
            · rw [Array.getD_eq_getD_getElem?, Array.getElem?_eq_none hge] at hv
              cases hv
          rw [Array.getD_eq_getD_getElem?, Array.getElem?_eq_getElem hlt] at hv
          simp only [Option.getD_some] at hv
          simp [yielded, ht, hlt, hv]
        have hK := wantK_iff.1 hK
        by_cases hb : b = want
        · subst hb
          rw [if_pos (by simp [Region.wanted, hg, hyl])]
          have : (if b then b else !b) = true := by cases b <;> rfl
          rw [this] at hK
          exact step (dguard_true hT h0 h hd hK)
        · rw [if_neg (by simp [Region.wanted, hg, hyl, hb])]
          have : (if want then b else !b) = false := by cases b <;> cases want <;> simp at hb ⊢
          exact hK' _ _ (next _ _ (dguard_false h this hd hK))
      · rename_i g b e
        obtain ⟨t, ht, hlk⟩ := hy _ e (by simp)
        have hv := h.env t
        rw [hlk] at hv
        obtain ⟨hv1, hv0⟩ := hv.wh_inv
        have hK := wantK_iff.1 hK
        cases hgv : g with
        | false =>
          have hv := hv0 hgv
          have hyl : yielded ops a.tmps j = none := by
            have : a.tmps[t]? = none ∨ a.tmps[t]? = some undef := by
              rw [Array.getD_eq_getD_getElem?] at hv
              cases ht : a.tmps[t]? with
              | none => exact .inl rfl
              | some v => rw [ht] at hv; exact .inr (by simpa using hv)
            rcases this with h1 | h1 <;> simp [yielded, ht, h1, undef]
          rw [if_neg (by simp [Region.wanted, hg, hyl])]
          exact hK' _ _ (next _ _ (dguard_false h (by simp [hgv]) hd hK))
        | true =>
          have hv := (hv1 hgv).v_inv.1
          have hyl : yielded ops a.tmps j = some b := by
            have hlt : t < a.tmps.size := by
              rcases Nat.lt_or_ge t a.tmps.size with hlt | hge
              · exact hlt
              · rw [Array.getD_eq_getD_getElem?, Array.getElem?_eq_none hge] at hv
                cases hv
            rw [Array.getD_eq_getD_getElem?, Array.getElem?_eq_getElem hlt] at hv
            simp only [Option.getD_some] at hv
            simp [yielded, ht, hlt, hv]
          by_cases hb : b = want
          · subst hb
            rw [if_pos (by simp [Region.wanted, hg, hyl])]
            have : (g && (if b then b else !b)) = true := by rw [hgv]; cases b <;> rfl
            rw [this] at hK
            exact step (dguard_true hT h0 h hd hK)
          · rw [if_neg (by simp [Region.wanted, hg, hyl, hb])]
            have : (g && (if want then b else !b)) = false := by rw [hgv]; cases b <;> cases want <;> simp at hb ⊢
            exact hK' _ _ (next _ _ (dguard_false h this hd hK))
      · exact hK.elim
end
end Go.Lift
