/- A data-level logic for the model: what a body does to data; its soundness (part LiftB). No conditions. -/
import Derived.Test.YtmfgjjnmfahcjaaLiftA
namespace Go.Lift

/-! # The table of types, checked against the program -/
def fsOk : List Field → List (TypeId × Nat) → Bool
  | [], [] => true
  | f :: r, x :: r' => Nat.beq f.type x.1 && Nat.beq f.offset x.2 && f.name != "_" && fsOk r r'
  | _, _ => false
def kOk : TypeDesc → TK → Bool
  | .int k, .int k' => ikEq k k'
  | .bool, .bool => true
  | .string, .str => true
  | .slice e, .slc e' => Nat.beq e e'
  | .array n e, .arr n' e' => Nat.beq n n' && Nat.beq e e'
  | .struct F, .st fs => fsOk F.toList fs
  | .struct _, _ | .array _ _, _ => false
  | _, .other => true
  | _, _ => false
def aggD : TypeDesc → Bool
  | .struct _ | .array _ _ => true
  | _ => false
def z1 : Value → DV → Bool
  | .int k n, .v (.int k' m) => ikEq k k' && n == m
  | .bool b, .v (.bool b') => b == b'
  | .string s, .v (.string s') => s.data.toList == s'.data.toList
  | .pointer none, .v (.pointer none) => true
  | .slice none 0 0, .nl => true
  | _, _ => false
def zOk : List Value → List DV → Bool
  | [], [] => true
  | v :: r, d :: r' => z1 v d && zOk r r'
  | _, _ => false
def entryOk (P : Program) (t : TypeId) (ti : TI) : Bool :=
  match P.info? t, P.underlying t with
  | some i, some d => Nat.beq i.size ti.size && Nat.beq i.bytes ti.bytes && (match i.zero with
    | some z => zOk z.cells.toList ti.zero && Nat.beq ti.zero.length ti.size
    | none => false) && kOk d ti.k && (aggD d == ti.agg) && (ti.agg || Nat.beq ti.size 1) && (!ti.agg || (!P.stoodInHeld t && !P.eqGuardType P.depth t))
  | _, _ => false
def tabOk (P : Program) : TT → Bool
  | [] => true
  | p :: r => entryOk P p.1 p.2 && tabOk P r

structure Entry (P : Program) (t : TypeId) (ti : TI) : Prop where
  info : ∃ i, P.info? t = some i ∧ i.size = ti.size ∧ i.bytes = ti.bytes ∧ ∃ z, i.zero = some z ∧ zOk z.cells.toList ti.zero = true ∧ ti.zero.length = ti.size
  kind : ∃ d, P.underlying t = some d ∧ kOk d ti.k = true ∧ aggD d = ti.agg
  one : ti.agg = false → ti.size = 1
  held : ti.agg = true → P.stoodInHeld t = false ∧ P.eqGuardType P.depth t = false
theorem entry_of {P : Program} {t : TypeId} {ti : TI} (h : entryOk P t ti = true) : Entry P t ti := by
  unfold entryOk at h
  split at h
  · rename_i i d hi hd
    simp only [Bool.and_eq_true, Bool.or_eq_true, Bool.not_eq_true', beq_iff_eq] at h
    obtain ⟨⟨⟨⟨⟨⟨h1, h2⟩, h3⟩, h4⟩, h5⟩, h7⟩, h6⟩ := h
    refine ⟨⟨i, hi, Nat.eq_of_beq_eq_true h1, Nat.eq_of_beq_eq_true h2, ?_⟩, ⟨d, hd, h4, h5⟩, fun ha => ?_, fun ha => ?_⟩
    · split at h3
      · rename_i z hz
        simp only [Bool.and_eq_true] at h3
        exact ⟨z, hz, h3.1, Nat.eq_of_beq_eq_true h3.2⟩
      · exact absurd h3 (by simp)
    · rcases h7 with h7 | h7
      · rw [ha] at h7; exact absurd h7 (by simp)
      · exact Nat.eq_of_beq_eq_true h7
    · rcases h6 with h6 | h6
      · rw [ha] at h6; exact absurd h6 (by simp)
      · exact h6
  · exact absurd h (by simp)
theorem tab_entry {P : Program} : ∀ {tt : TT} {t : TypeId}, tabOk P tt = true → ((tinfo tt t).size ≠ 0 ∨ (tinfo tt t).k ≠ .other) → Entry P t (tinfo tt t)
  | [], t, _, h => by rcases h with h | h <;> exact absurd rfl h
  | p :: r, t, hT, h => by
    simp only [tabOk, Bool.and_eq_true] at hT
    simp only [tinfo] at h ⊢
    split
    · rename_i hb
      have := Nat.eq_of_beq_eq_true hb
      subst this
      exact entry_of hT.1
    · rename_i hb
      simp only [hb] at h
      exact tab_entry hT.2 h

section
variable {P : Program} {tt : TT} {t : TypeId}
theorem tab_size (hT : tabOk P tt = true) (h : (tinfo tt t).size ≠ 0) : ∃ i, P.info? t = some i ∧ i.size = (tinfo tt t).size ∧ i.bytes = (tinfo tt t).bytes ∧ ∃ z, i.zero = some z ∧ zOk z.cells.toList (tinfo tt t).zero = true ∧ (tinfo tt t).zero.length = (tinfo tt t).size :=
  (tab_entry hT (.inl h)).info
theorem run_sizeOf_tab (hT : tabOk P tt = true) (h : (tinfo tt t).size ≠ 0) (w : World) : (sizeOf t).run P w = .ok (tinfo tt t).size w := by
  obtain ⟨i, hi, hs, _⟩ := tab_size hT h
  simp [sizeOf, typeInfo, hi, hs]
theorem run_isAgg_tab (hT : tabOk P tt = true) (h : (tinfo tt t).size ≠ 0) (w : World) : (isAgg t).run P w = .ok (tinfo tt t).agg w := by
  obtain ⟨d, hd, _, ha⟩ := (tab_entry hT (.inl h)).kind
  rw [← ha]
  simp only [isAgg, Sem.run_bind, run_underlying hd, Result.andThen_ok]
  cases d <;> rfl
theorem tab_int (hT : tabOk P tt = true) {k : IntKind} (h : (tinfo tt t).k = .int k) : P.underlying t = some (.int k) := by
  obtain ⟨d, hd, hk, _⟩ := (tab_entry hT (.inr (by rw [h]; simp))).kind
  rw [h] at hk
  cases d <;> simp [kOk] at hk
  rw [ikEq_iff.1 hk] at hd
  exact hd
theorem tab_bool (hT : tabOk P tt = true) (h : (tinfo tt t).k = .bool) : P.underlying t = some .bool := by
  obtain ⟨d, hd, hk, _⟩ := (tab_entry hT (.inr (by rw [h]; simp))).kind
  rw [h] at hk
  cases d <;> simp [kOk] at hk
  exact hd
theorem tab_str (hT : tabOk P tt = true) (h : (tinfo tt t).k = .str) : P.underlying t = some .string := by
  obtain ⟨d, hd, hk, _⟩ := (tab_entry hT (.inr (by rw [h]; simp))).kind
  rw [h] at hk
  cases d <;> simp [kOk] at hk
  exact hd
theorem tab_slc (hT : tabOk P tt = true) {e : TypeId} (h : (tinfo tt t).k = .slc e) : P.underlying t = some (.slice e) := by
  obtain ⟨d, hd, hk, _⟩ := (tab_entry hT (.inr (by rw [h]; simp))).kind
  rw [h] at hk
  cases d <;> simp [kOk] at hk
  rw [hk] at hd
  exact hd
theorem tab_arr (hT : tabOk P tt = true) {n : Nat} {e : TypeId} (h : (tinfo tt t).k = .arr n e) : P.underlying t = some (.array n e) := by
  obtain ⟨d, hd, hk, _⟩ := (tab_entry hT (.inr (by rw [h]; simp))).kind
  rw [h] at hk
  cases d <;> simp [kOk] at hk
  rw [hk.1, hk.2] at hd
  exact hd
theorem tab_st (hT : tabOk P tt = true) {fs : List (TypeId × Nat)} (h : (tinfo tt t).k = .st fs) : ∃ F : Array Field, P.underlying t = some (.struct F) ∧ fsOk F.toList fs = true ∧ (tinfo tt t).agg = true := by
  obtain ⟨d, hd, hk, ha⟩ := (tab_entry hT (.inr (by rw [h]; simp))).kind
  rw [h] at hk
  cases d <;> simp [kOk] at hk
  exact ⟨_, hd, hk, ha.symm⟩
end
theorem fsOk_field : ∀ {F : List Field} {fs : List (TypeId × Nat)} {f : Nat}, fsOk F fs = true → (fieldOf fs f).1 ≠ 0 ∨ f < fs.length → f < fs.length → ∃ x, F[f]? = some x ∧ x.type = (fieldOf fs f).1 ∧ x.offset = (fieldOf fs f).2 ∧ x.name ≠ "_"
  | [], [], f, _, _, hf => by simp at hf
  | [], _ :: _, f, h, _, _ => by simp [fsOk] at h
  | _ :: _, [], f, h, _, _ => by simp [fsOk] at h
  | x :: r, y :: r', 0, h, _, _ => by
    simp only [fsOk, Bool.and_eq_true, bne_iff_ne] at h
    exact ⟨x, rfl, Nat.eq_of_beq_eq_true h.1.1.1, Nat.eq_of_beq_eq_true h.1.1.2, h.1.2⟩
  | x :: r, y :: r', f + 1, h, _, hf => by
    simp only [fsOk, Bool.and_eq_true, bne_iff_ne] at h
    simp only [List.length_cons, Nat.add_lt_add_iff_right] at hf
    simpa [fieldOf] using fsOk_field (f := f) h.2 (.inr hf) hf
theorem fieldOf_far : ∀ {fs : List (TypeId × Nat)} {f : Nat}, fs.length ≤ f → fieldOf fs f = (0, 0)
  | [], f, _ => by simp [fieldOf]
  | _ :: r, 0, h => by simp at h
  | _ :: r, f + 1, h => by simp only [fieldOf]; exact fieldOf_far (by simpa using h)
theorem zOk_all {A : Nat → Prop} {w : World} : ∀ {vs : List Value} {ds : List DV}, zOk vs ds = true → vs.length = ds.length ∧ (∀ v ∈ vs, v.oneCell' = true) ∧ ∀ (i : Nat) v d, vs[i]? = some v → ds[i]? = some d → Imm A w v d
  | [], [], _ => ⟨rfl, by simp, by simp⟩
  | [], _ :: _, h => by simp [zOk] at h
  | _ :: _, [], h => by simp [zOk] at h
  | v :: r, d :: r', h => by
    simp only [zOk, Bool.and_eq_true] at h
    obtain ⟨hl, hone, hp⟩ := zOk_all (A := A) (w := w) h.2
    have h1 : v.oneCell' = true ∧ Imm A w v d := by
      have h := h.1
      unfold z1 at h
      split at h
      · simp only [Bool.and_eq_true, beq_iff_eq] at h
        obtain ⟨hk, rfl⟩ := h
        obtain rfl := ikEq_iff.1 hk
        exact ⟨rfl, .v rfl⟩
      · simp only [beq_iff_eq] at h
        subst h
        exact ⟨rfl, .v rfl⟩
      · rename_i s s' _
        have : s = s' := by
          obtain ⟨⟨x⟩⟩ := s
          obtain ⟨⟨y⟩⟩ := s'
          simpa using h
        subst this
        exact ⟨rfl, .v rfl⟩
      · exact ⟨rfl, .v rfl⟩
      · exact ⟨rfl, .nl⟩
      · exact absurd h (by simp)
    refine ⟨by simpa using hl, by simpa using ⟨h1.1, hone⟩, fun i v' d' hv hd => ?_⟩
    cases i with
    | zero => simp at hv hd; subst hv hd; exact h1.2
    | succ i => exact hp i v' d' (by simpa using hv) (by simpa using hd)
end Go.Lift
