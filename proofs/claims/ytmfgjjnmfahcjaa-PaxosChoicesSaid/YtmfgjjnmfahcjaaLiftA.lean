/- A data-level logic for the model: what a body does to data; its soundness (part LiftA). No conditions. -/
import Derived.Test.YtmfgjjnmfahcjaaLiftDef
namespace Go.Lift

/-! # The data-level view: basic facts, what a state stands for -/

theorem frc_iff {d : DV} {K : DV → Prop} : frc d K ↔ K d := by cases d <;> exact Iff.rfl
theorem takeK_elim : ∀ {n : Nat} {l : List DV} {K : List DV → Prop}, takeK n l K → n ≤ l.length ∧ K (l.take n)
  | 0, l, K, h => ⟨Nat.zero_le _, h⟩
  | n + 1, [], K, h => h.elim
  | n + 1, d :: r, K, h => by
    have h := frc_iff.1 h
    obtain ⟨h1, h2⟩ := takeK_elim h
    exact ⟨by simp; omega, by simpa using h2⟩
theorem dropK_elim : ∀ {n : Nat} {l : List DV} {K : List DV → Prop}, dropK n l K → n ≤ l.length ∧ K (l.drop n)
  | 0, l, K, h => ⟨Nat.zero_le _, h⟩
  | n + 1, [], K, h => h.elim
  | n + 1, d :: r, K, h => by
    obtain ⟨h1, h2⟩ := dropK_elim (l := r) h
    exact ⟨by simp; omega, by simpa using h2⟩
theorem ikEq_iff {a b : IntKind} : ikEq a b = true ↔ a = b := by cases a <;> cases b <;> simp [ikEq]
theorem lget_eq : ∀ (l : List LObj) (i : Nat), lget l i = (l[i]?).getD .dead
  | [], i => by cases i <;> rfl
  | o :: r, 0 => rfl
  | o :: r, i + 1 => by rw [lget]; simpa using lget_eq r i
theorem lset_eq : ∀ (l : List LObj) (i : Nat) (x : LObj), lset l i x = l.set i x
  | [], i, x => by cases i <;> rfl
  | o :: r, 0, x => rfl
  | o :: r, i + 1, x => by rw [lset, lset_eq r i x]; rfl
theorem dset_eq : ∀ (l : List DV) (i : Nat) (x : DV), dset l i x = l.set i x
  | [], i, x => by cases i <;> rfl
  | o :: r, 0, x => rfl
  | o :: r, i + 1, x => by rw [dset, dset_eq r i x]; rfl
theorem length_dsplice : ∀ (r l : List DV) (o : Nat), (dsplice l o r).length = l.length
  | [], l, o => by simp [dsplice]
  | x :: r, l, o => by rw [dsplice, length_dsplice r _ _, dset_eq]; simp
theorem get_dsplice : ∀ (r l : List DV) (o j : Nat), o + r.length ≤ l.length → (dsplice l o r)[j]? = if o ≤ j ∧ j < o + r.length then r[j - o]? else l[j]?
  | [], l, o, j, _ => by simp [dsplice]; omega
  | x :: r, l, o, j, h => by
    simp only [List.length_cons] at h
    rw [dsplice, get_dsplice r _ _ j (by rw [dset_eq]; simp; omega), dset_eq]
    by_cases h1 : o + 1 ≤ j ∧ j < o + 1 + r.length
    · rw [if_pos h1, if_pos (by simp; omega)]
      obtain ⟨m, rfl⟩ : ∃ m, j = o + 1 + m := ⟨j - (o + 1), by omega⟩
      rw [show o + 1 + m - (o + 1) = m by omega, show o + 1 + m - o = m + 1 by omega]
      simp
    · rw [if_neg h1]
      by_cases h2 : j = o
      · subst h2
        rw [if_pos (by simp)]
        simp [List.getElem?_set]
        omega
      · rw [if_neg (by simp; omega), List.getElem?_set_ne (by omega)]
theorem look_mapE (f : DV → DV) (hf : f .junk = .junk) : ∀ (e : List (Nat × DV)) (t : Nat), look (mapE f e) t = f (look e t)
  | [], t => by simp [mapE, look, hf]
  | p :: r, t => by
    simp only [mapE, look]
    split
    · rfl
    · exact look_mapE f hf r t

/-! ## keeping data over a change of the world -/
theorem cell_same {w w' : World} {a : Addr} (h : w'.heap[a.block]? = w.heap[a.block]?) : w'.cell? a = w.cell? a := by simp [World.cell?, h]
theorem Addr.block_add (a : Addr) (n : Nat) : (a.add n).block = a.block := by unfold Addr.add; split <;> rfl
theorem Addr.add_add (a : Addr) (i j : Nat) : (a.add i).add j = a.add (i + j) := by
  unfold Addr.add
  by_cases hi : i = 0 <;> by_cases hj : j = 0 <;> simp [hi, hj, Nat.add_assoc]
theorem Addr.add_mk (b o n : Nat) : Addr.add ⟨b, o, none⟩ n = ⟨b, o + n, none⟩ := by
  unfold Addr.add
  split
  · subst_vars; rfl
  · rfl

/-- of what lies outside A nothing turns; A may grow by new blocks, or shrink -/
structure Keeps (A A' : Nat → Prop) (w w' : World) : Prop where
  size : w.heap.size ≤ w'.heap.size
  out : ∀ b, b < w.heap.size → A' b → A b
  same : ∀ b, b < w.heap.size → ¬ A b → w'.heap[b]? = w.heap[b]?
theorem Imm.keep {A A' : Nat → Prop} {w w' : World} (k : Keeps A A' w w') {x : Value} {d : DV} (h : Imm A w x d) : Imm A' w' x d := by
  induction h with
  | v h => exact .v h
  | @lst a n c sz es full xs hn hc hm hf hsz hA hb hone hcell _ ih =>
    refine .lst xs hn hc hm hf hsz (fun hne h => hA hne (k.out _ (hb hne) h)) (fun hne => Nat.lt_of_lt_of_le (hb hne) k.size) hone (fun i j e d he hd => ?_) ih
    have hne : es ≠ [] := fun e0 => by rw [e0] at he; simp at he
    have := hcell i j e d he hd
    rwa [← cell_same (w := w) (w' := w') (by rw [Addr.block_add]; exact k.same _ (hb hne) (hA hne))] at this
  | nil => exact .nil
  | nl => exact .nl
  | agg hl hone _ ih => exact .agg hl hone ih
  | tup hl _ ih => exact .tup hl ih
  | @ip a cs xs hA hb hone hcell _ ih =>
    refine .ip xs (fun h => hA (k.out _ hb h)) (Nat.lt_of_lt_of_le hb k.size) hone (fun j d hd => ?_) ih
    have := hcell j d hd
    rwa [← cell_same (w := w) (w' := w') (by rw [Addr.block_add]; exact k.same _ hb hA)] at this
  | fn hl _ ih => exact .fn hl ih
  | wh _ h0 ih => exact .wh ih h0
  | junk => exact .junk
theorem Keeps.refl (A : Nat → Prop) (w : World) : Keeps A A w w := ⟨Nat.le_refl _, fun _ _ h => h, fun _ _ _ => rfl⟩
theorem Keeps.less {A A' : Nat → Prop} {w : World} (h : ∀ b, A' b → A b) : Keeps A A' w w := ⟨Nat.le_refl _, fun _ _ h' => h _ h', fun _ _ _ => rfl⟩
theorem Keeps.grown {A A' : Nat → Prop} {w w' : World} (hg : w.grownBy w' none) (h : ∀ b, b < w.heap.size → A' b → A b) : Keeps A A' w w' :=
  ⟨hg.size, h, fun b hb _ => hg.block b hb (by simp)⟩

/-! ## a value of the call's frame, over the call's own objects -/
section
variable {A : Nat → Prop} {os : Objs} {w : World} {x : Value}
theorem RepV.v_inv {y : Value} (h : RepV A os w x (.v y)) : x = y ∧ y.oneCell' = true := by
  cases h with
  | imm h => cases h with
    | v h => exact ⟨rfl, h⟩
  | stale h hd h1 => rcases hd with hd | ⟨_, _, hd⟩ <;> cases hd
theorem RepV.lst_inv {sz : Nat} {es : List (List DV)} {f : Bool} (h : RepV A os w x (.lst sz es f)) : Imm A w x (.lst sz es f) := by
  cases h with
  | imm h => exact h
  | stale h hd h1 => rcases hd with hd | ⟨_, _, hd⟩ <;> cases hd
theorem RepV.nl_inv (h : RepV A os w x .nl) : x = .slice none 0 0 := by
  cases h with
  | imm h => cases h; rfl
  | stale h hd h1 => rcases hd with hd | ⟨_, _, hd⟩ <;> cases hd
theorem RepV.ip_inv {cs : List DV} (h : RepV A os w x (.ip cs)) : Imm A w x (.ip cs) := by
  cases h with
  | imm h => exact h
  | stale h hd h1 => rcases hd with hd | ⟨_, _, hd⟩ <;> cases hd
theorem RepV.tup_inv {ds : List DV} (h : RepV A os w x (.tup ds)) : Imm A w x (.tup ds) := by
  cases h with
  | imm h => exact h
  | stale h hd h1 => rcases hd with hd | ⟨_, _, hd⟩ <;> cases hd
theorem RepV.fn_inv {f : Fn} {ds : List DV} (h : RepV A os w x (.fn f ds)) : ∃ vs : List Value, x = .func f #[] vs.toArray ∧ vs.length = ds.length ∧ ∀ (i : Nat) v d, vs[i]? = some v → ds[i]? = some d → RepV A os w v d := by
  cases h with
  | imm h => cases h with
    | fn hl hp => exact ⟨_, rfl, hl, fun i v d hv hd => .imm (hp i v d hv hd)⟩
  | fn hl hcap hp => exact ⟨_, rfl, hl, hp⟩
  | stale h hd h1 => rcases hd with hd | ⟨_, _, hd⟩ <;> cases hd
theorem RepV.agg_inv {ds : List DV} (h : RepV A os w x (.agg ds)) : ∃ vs : List Value, x = .agg vs.toArray ∧ vs.length = ds.length ∧ (∀ v ∈ vs, v.oneCell' = true) ∧
    ∀ (i : Nat) v d, vs[i]? = some v → ds[i]? = some d → RepV A os w v d := by
  cases h with
  | imm h => cases h with
    | agg hl hone h => exact ⟨_, rfl, hl, hone, fun i v d hv hd => .imm (h i v d hv hd)⟩
  | agg hl hone h => exact ⟨_, rfl, hl, hone, h⟩
  | stale h hd h1 => rcases hd with hd | ⟨_, _, hd⟩ <;> cases hd
theorem RepV.wh_inv {b : Bool} {d : DV} (h : RepV A os w x (.wh b d)) : (b = true → RepV A os w x d) ∧ (b = false → x = undef) := by
  cases h with
  | imm h => cases h with
    | wh h h0 => exact ⟨fun hb => .imm (h hb), h0⟩
  | wh h h0 => exact ⟨h, h0⟩
  | stale h hd h1 => rcases hd with hd | ⟨_, _, hd⟩ <;> cases hd
theorem RepV.lp_inv {i off : Nat} (h : RepV A os w x (.lp i off)) : ∃ g t cs, os[i]? = some (.pointer (some ⟨g, 0, none⟩), .cells t cs) ∧ x = .pointer (some ⟨g, off, none⟩) := by
  cases h with
  | imm h => cases h
  | lp h => exact ⟨_, _, _, h, rfl⟩
  | stale h hd h1 => rcases hd with hd | ⟨_, _, hd⟩ <;> cases hd
theorem RepV.ap_inv {i off : Nat} (h : RepV A os w x (.ap i off)) : ∃ g t cs, os[i]? = some (.pointer (some ⟨g, 0, none⟩), .cells t cs) ∧ x = .pointer (some ⟨g, off, none⟩) := by
  cases h with
  | imm h => cases h
  | ap h => exact ⟨_, _, _, h, rfl⟩
  | stale h hd h1 => rcases hd with hd | ⟨_, _, hd⟩ <;> cases hd
theorem RepV.rp_inv {i k off : Nat} (h : RepV A os w x (.rp i k off)) : x.oneCell' = true ∧ ((∃ g n c e sz es, os[i]? = some (.slice (some ⟨g, 0, none⟩) n c, .row e sz es) ∧ x = .pointer (some ⟨g, k * sz + off, none⟩)) ∨ ∃ y, os[i]? = some (y, .gone)) := by
  cases h with
  | imm h => cases h
  | rp h => exact ⟨rfl, .inl ⟨_, _, _, _, _, _, h, rfl⟩⟩
  | stale h hd h1 => rcases hd with hd | ⟨_, _, hd⟩ <;> cases hd; exact ⟨h1, .inr ⟨_, h⟩⟩
theorem RepV.own_inv {i : Nat} (h : RepV A os w x (.own i)) : x.oneCell' = true ∧ ((∃ e sz es, os[i]? = some (x, .row e sz es)) ∨ ∃ y, os[i]? = some (y, .gone)) := by
  cases h with
  | imm h => cases h
  | own h h1 => exact ⟨h1, .inl ⟨_, _, _, h⟩⟩
  | stale h hd h1 => rcases hd with hd | ⟨_, _, hd⟩ <;> cases hd; exact ⟨h1, .inr ⟨_, h⟩⟩
/-- of a row that is there a handle is the very one -/
theorem RepV.own_row {i : Nat} {y : Value} {e : TypeId} {sz : Nat} {es : List (List DV)} (h : RepV A os w x (.own i)) (hi : os[i]? = some (y, .row e sz es)) : x = y := by
  rcases h.own_inv.2 with ⟨_, _, _, h⟩ | ⟨_, h⟩
  · rw [hi] at h; cases h; rfl
  · rw [hi] at h; cases h
theorem RepV.rp_row {i k off : Nat} {y : Value} {e : TypeId} {sz : Nat} {es : List (List DV)} (h : RepV A os w x (.rp i k off)) (hi : os[i]? = some (y, .row e sz es)) : ∃ g n c, y = .slice (some ⟨g, 0, none⟩) n c ∧ x = .pointer (some ⟨g, k * sz + off, none⟩) := by
  rcases h.rp_inv.2 with ⟨g, n, c, _, _, _, h, hx⟩ | ⟨_, h⟩
  · rw [hi] at h; cases h; exact ⟨g, n, c, rfl, hx⟩
  · rw [hi] at h; cases h
/-- objects of the same kinds at the same places -/
def kindIs (o o' : LObj) : Prop :=
  match o, o' with
  | .cells t _, .cells t' _ => t = t'
  | .row e sz _, .row e' sz' _ => e = e' ∧ sz = sz'
  | .dead, _ => True
  | .gone, .gone => True
  | .gh _, .gh _ => True
  | _, _ => False
def Alike (os os' : Objs) : Prop := ∀ (i : Nat) (x : Value) (o : LObj), os[i]? = some (x, o) → ∃ o', os'[i]? = some (x, o') ∧ kindIs o o'
theorem Alike.refl (os : Objs) : Alike os os := fun i x o h => ⟨o, h, by cases o <;> simp [kindIs]⟩
theorem RepV.keep {A' : Nat → Prop} {os' : Objs} {w' : World} (k : Keeps A A' w w') (ha : Alike os os') {d : DV} (h : RepV A os w x d) : RepV A' os' w' x d := by
  induction h with
  | imm h => exact .imm (h.keep k)
  | lp h =>
    obtain ⟨o', h', hk⟩ := ha _ _ _ h
    cases o' <;> simp [kindIs] at hk
    exact .lp h'
  | ap h =>
    obtain ⟨o', h', hk⟩ := ha _ _ _ h
    cases o' <;> simp [kindIs] at hk
    exact .ap h'
  | rp h =>
    obtain ⟨o', h', hk⟩ := ha _ _ _ h
    cases o' <;> simp [kindIs] at hk
    obtain ⟨rfl, rfl⟩ := hk
    exact .rp h'
  | own h h1 =>
    obtain ⟨o', h', hk⟩ := ha _ _ _ h
    cases o' <;> simp [kindIs] at hk
    exact .own h' h1
  | stale h hd h1 =>
    obtain ⟨o', h', hk⟩ := ha _ _ _ h
    cases o' <;> simp [kindIs] at hk
    exact .stale h' hd h1
  | agg hl hone _ ih => exact .agg hl hone ih
  | fn hl hcap _ ih => exact .fn hl hcap ih
  | wh _ h0 ih => exact .wh ih h0
/-- one cell, or the cells of a struct -/
theorem RepV.cells {d : DV} (h : RepV A os w x d) (hd : ∀ b d', d ≠ .wh b d') (ht : ∀ l, d ≠ .tup l) (hj : d ≠ .junk) :
    x.cells.toList.length = (dcells d).length ∧ (∀ v ∈ x.cells.toList, v.oneCell' = true) ∧ ∀ (i : Nat) v e, x.cells.toList[i]? = some v → (dcells d)[i]? = some e → RepV A os w v e := by
  have one : ∀ {y : Value} {e : DV}, y.oneCell' = true → (∀ l, e ≠ .agg l) → RepV A os w y e → y.cells.toList.length = (dcells e).length ∧ (∀ v ∈ y.cells.toList, v.oneCell' = true) ∧ ∀ (i : Nat) v e', y.cells.toList[i]? = some v → (dcells e)[i]? = some e' → RepV A os w v e' := by
    intro y e hy he hr
    have h1 : y.cells = #[y] := by cases y <;> first | rfl | simp [Value.oneCell'] at hy
    have h2 : dcells e = [e] := by cases e <;> first | rfl | exact absurd rfl (he _)
    rw [h1, h2]
    refine ⟨rfl, by simpa using hy, fun i v e' hv he' => ?_⟩
    cases i with
    | zero => simp at hv he'; subst hv he'; exact hr
    | succ i => simp at hv
  cases d with
  | v y => obtain ⟨rfl, hy⟩ := h.v_inv; exact one hy (by simp) h
  | lst => have h' := h.lst_inv; cases h' <;> exact one rfl (by simp) h
  | agg ds => obtain ⟨vs, rfl, hl, hone, hp⟩ := h.agg_inv; exact ⟨by simpa [Value.cells, dcells] using hl, by simpa [Value.cells] using hone, by simpa [Value.cells, dcells] using hp⟩
  | tup l => exact absurd rfl (ht l)
  | ip => have h' := h.ip_inv; cases h'; exact one rfl (by simp) h
  | lp => obtain ⟨_, _, _, _, rfl⟩ := h.lp_inv; exact one rfl (by simp) h
  | ap => obtain ⟨_, _, _, _, rfl⟩ := h.ap_inv; exact one rfl (by simp) h
  | rp => exact one h.rp_inv.1 (by simp) h
  | own => exact one h.own_inv.1 (by simp) h
  | fn => obtain ⟨_, rfl, _⟩ := h.fn_inv; exact one rfl (by simp) h
  | nl => cases h.nl_inv; exact one rfl (by simp) (.imm .nl)
  | wh b d' => exact absurd rfl (hd b d')
  | junk => exact absurd rfl hj
end
end Go.Lift
