/- A data-level logic for the model: what a body does to data; its soundness (part LiftD). No conditions. -/
import Derived.Test.YtmfgjjnmfahcjaaLiftC6
set_option linter.unusedSimpArgs false
set_option linter.unusedVariables false
namespace Go.Lift
open Go

/-! # States -/
structure Rep (A0 : Nat → Prop) (w0 : Home) (n : Nat) (os : Objs) (s : DS) (a : Act) (w : World) : Prop where
  size : a.tmps.size = n
  defers : a.defers = []
  gr : Grown w0.M w0.w w
  a0 : ∀ b, A0 b → ¬ w0.mine b
  loc : s.loc = os.map (·.2)
  env : ∀ t, RepV (avoid A0 os) os w (a.tmps.getD t undef) (look s.env t)
  obj : ObjsOk (avoid A0 os) os w0 w
  inj : ∀ (i j : Nat) x o y o' b, os[i]? = some (x, o) → os[j]? = some (y, o') → o ≠ .dead → o' ≠ .dead → blk x = some b → blk y = some b → i = j

section
variable {P : Program} {tt : TT} {A0 : Nat → Prop} {w0 : Home} {n : Nat} {os : Objs} {s : DS} {a : Act} {w : World} {o : Oper}

theorem grownBy.trans' {a b c : World} {r : Option Nat} (h : a.grownBy b none) (h' : b.grownBy c r) (hr : ∀ g, r = some g → a.heap.size ≤ g) : a.grownBy c none :=
  ⟨h'.os.trans h.os, h'.tape.trans h.tape, h'.output.trans h.output, Nat.le_trans h.size h'.size, fun k hk _ =>
    (h'.block k (Nat.lt_of_lt_of_le hk h.size) (fun e => by have := hr k e.symm; omega)).trans (h.block k hk (by simp))⟩
theorem Grown.trans' {h : Home} {b c : World} {r : Option Nat} (hg : Grown h.M h.w b) (h' : b.grownBy c r) (hr : ∀ g, r = some g → h.mine g) : Grown h.M h.w c :=
  ⟨h'.os.trans hg.os, h'.tape.trans hg.tape, h'.output.trans hg.output, Nat.le_trans hg.size h'.size, fun k hk hn =>
    (h'.block k (Nat.lt_of_lt_of_le hk hg.size) (fun e => by
      rcases hr k e.symm with h1 | h1
      · omega
      · exact hn h1)).trans (hg.block k hk hn)⟩
theorem Home.mine_new {h : Home} {b : World} (hg : Grown h.M h.w b) {k : Nat} (hk : b.heap.size ≤ k) : h.mine k := .inl (Nat.le_trans hg.size hk)
theorem grownBy.refl' (w : World) (r : Option Nat) : w.grownBy w r := ⟨rfl, rfl, rfl, Nat.le_refl _, fun _ _ _ => rfl⟩

theorem Rep.a0_lt (h : Rep A0 w0 n os s a w) {b : Nat} (hb : A0 b) : b < w.heap.size := by
  have h1 := h.a0 b hb
  have h2 := h.gr.size
  rcases Nat.lt_or_ge b w.heap.size with h3 | h3
  · exact h3
  · exact absurd (.inl (by omega)) h1
theorem Rep.ev (h : Rep A0 w0 n os s a w) (x : Operand) : RepV (avoid A0 os) os w (a.eval x) (ev s x) := by
  cases x with
  | tmp t => exact h.env t
  | const v =>
    show RepV _ _ _ v (cdv v)
    unfold cdv
    split
    · exact .imm .nl
    · exact .imm .junk
    · exact .imm .junk
    · exact .imm .junk
    · rename_i h1 h2 h3 h4
      refine .imm (.v ?_)
      cases v <;> first | rfl | exact absurd rfl (h3 _) | exact absurd rfl (h4 _)
  | global g => exact .imm .junk
  | func f => exact .imm (.fn (vs := []) rfl (by simp))
theorem getD_put {t u : Nat} {x : Value} (ht : t < a.tmps.size) : (a.put (some t) x).tmps.getD u undef = if u = t then x else a.tmps.getD u undef := by
  simp only [Act.put, Array.getD_eq_getD_getElem?, Array.getElem?_setIfInBounds]
  by_cases h : u = t
  · subst h; simp [ht]
  · rw [if_neg (fun e => h e.symm), if_neg h]
theorem Rep.put (h : Rep A0 w0 n os s a w) {dst : Option Tmp} {x : Value} {d : DV} (hd : ∀ t, dst = some t → t < n) (hr : RepV (avoid A0 os) os w x d) : Rep A0 w0 n os (s.put dst d) (a.put dst x) w := by
  cases dst with
  | none => exact h
  | some t =>
    have ht : t < a.tmps.size := by rw [h.size]; exact hd t rfl
    refine ⟨by simpa [Act.put] using h.size, h.defers, h.gr, h.a0, h.loc, fun u => ?_, h.obj, h.inj⟩
    rw [getD_put ht]
    simp only [DS.put, look]
    by_cases e : u = t
    · subst e
      simpa using hr
    · rw [if_neg e]
      have : Nat.beq t u = false := by
        cases hb : Nat.beq t u
        · rfl
        · exact absurd (Nat.eq_of_beq_eq_true hb).symm e
      rw [this]
      exact h.env u
theorem forceL_iff : ∀ {l : List LObj} {K : List LObj → Prop}, forceL l K ↔ K l
  | [], K => Iff.rfl
  | o :: r, K => forceL_iff (l := r)
theorem putK_iff {dst : Option Tmp} {d : DV} {K : DS → Prop} : putK s dst d K ↔ K (s.put dst d) := by
  cases s; cases dst <;> exact forceL_iff

/-! ## how objects are kept -/
theorem ObjOk.blk_ge {A : Nat → Prop} {B : Home} {x : Value} {ob : LObj} (h : ObjOk A os B w x ob) (hd : ob ≠ .dead) {b : Nat} (hb : blk x = some b) : B.mine b ∧ b < w.heap.size := by
  cases ob with
  | dead => exact absurd rfl hd
  | gone => have h : blk x = none := h; rw [h] at hb; cases hb
  | gh ds => obtain ⟨rfl, _⟩ := h; simp [blk] at hb
  | cells t cs =>
    obtain ⟨g, arr, rfl, hB, hh, _⟩ := h
    simp [blk] at hb
    subst hb
    exact ⟨hB, (Array.getElem?_eq_some_iff.1 hh).1⟩
  | row e sz es =>
    obtain ⟨hmine, xs, hown, _⟩ := h
    refine ⟨hmine b hb, ?_⟩
    rcases hown.2 with ⟨rfl, _⟩ | ⟨g, cap, cur, rfl, hB, hh, _⟩
    · simp [blk] at hb
    · simp [blk] at hb
      subst hb
      exact (Array.getElem?_eq_some_iff.1 hh).1
theorem ObjOk.keep {A A' : Nat → Prop} {os os' : Objs} {B : Home} {w w' : World} {x : Value} {ob : LObj} (h : ObjOk A os B w x ob) (k : Keeps A A' w w') (ha : Alike os os') (hb : ∀ b, ob ≠ .dead → blk x = some b → w'.heap[b]? = w.heap[b]?) : ObjOk A' os' B w' x ob := by
  cases ob with
  | dead => exact trivial
  | gone => exact h
  | gh ds => exact ⟨h.1, h.2.1, h.2.2.1, fun i v d hv hd => (h.2.2.2 i v d hv hd).keep k ha⟩
  | cells t cs =>
    obtain ⟨g, arr, rfl, hB, hh, hs, hone, hr⟩ := h
    exact ⟨g, arr, rfl, hB, (hb g (by simp) rfl).trans hh, hs, hone, fun j v d hv hd => (hr j v d hv hd).keep k ha⟩
  | row e sz es =>
    obtain ⟨hmine, xs, hown, hsz, hrl, hone, hr⟩ := h
    refine ⟨hmine, xs, ⟨hown.1, ?_⟩, hsz, hrl, hone, fun k' j r d h1 h2 => ?_⟩
    · rcases hown.2 with hn | ⟨g, cap, cur, rfl, hB, hh, rest⟩
      · exact .inl hn
      · exact .inr ⟨g, cap, cur, rfl, hB, (hb g (by simp) rfl).trans hh, rest⟩
    · obtain ⟨v, hv, hi⟩ := hr k' j r d h1 h2
      exact ⟨v, hv, hi.keep k⟩

/-- the world has grown: nothing of the state turns -/
theorem Rep.grown {w' : World} (h : Rep A0 w0 n os s a w) (hg : w.grownBy w' none) : Rep A0 w0 n os s a w' :=
  have k : Keeps (avoid A0 os) (avoid A0 os) w w' := .grown hg (fun _ _ h => h)
  ⟨h.size, h.defers, Grown.trans' h.gr hg (fun _ e => by cases e), h.a0, h.loc, fun t => (h.env t).keep k (.refl _),
    fun i x ob hi => (h.obj i x ob hi).keep k (.refl _) (fun b hd hb => hg.block b ((h.obj i x ob hi).blk_ge hd hb).2 (by simp)), h.inj⟩

theorem avoid_push {x : Value} {ob : LObj} {b : Nat} (h : avoid A0 (os ++ [(x, ob)]) b) : avoid A0 os b ∨ (ob ≠ .dead ∧ blk x = some b) := by
  rcases h with h | ⟨i, y, o', hi, hd, hb⟩
  · exact .inl (.inl h)
  · by_cases hlt : i < os.length
    · rw [List.getElem?_append_left hlt] at hi
      exact .inl (.inr ⟨i, y, o', hi, hd, hb⟩)
    · rw [List.getElem?_append_right (by omega)] at hi
      cases hz : i - os.length with
      | zero => rw [hz] at hi; simp at hi; obtain ⟨rfl, rfl⟩ := hi; exact .inr ⟨hd, hb⟩
      | succ m => rw [hz] at hi; simp at hi
theorem alike_push (x : Value) (ob : LObj) : Alike os (os ++ [(x, ob)]) := fun i y o' hi => by
  refine ⟨o', ?_, by cases o' <;> simp [kindIs]⟩
  rw [List.getElem?_append_left (List.getElem?_eq_some_iff.1 hi).1]
  exact hi
/-- a new object of the call's own -/
theorem Rep.push {w' : World} {x : Value} {ob : LObj} (h : Rep A0 w0 n os s a w) (hg : w.grownBy w' none) (hnew : ∀ b, blk x = some b → w.heap.size ≤ b) (hob : ObjOk (avoid A0 (os ++ [(x, ob)])) (os ++ [(x, ob)]) w0 w' x ob) :
    Rep A0 w0 n (os ++ [(x, ob)]) ⟨s.env, s.loc ++ [ob]⟩ a w' := by
  have k : Keeps (avoid A0 os) (avoid A0 (os ++ [(x, ob)])) w w' := .grown hg (fun b hb hv => by
    rcases avoid_push hv with hv | ⟨_, hv⟩
    · exact hv
    · have := hnew b hv; omega)
  refine ⟨h.size, h.defers, Grown.trans' h.gr hg (fun _ e => by cases e), h.a0, by simp [h.loc], fun t => (h.env t).keep k (alike_push x ob), fun i y o' hi => ?_, fun i j y o1 z o2 b hi hj d1 d2 b1 b2 => ?_⟩
  · by_cases hlt : i < os.length
    · rw [List.getElem?_append_left hlt] at hi
      exact (h.obj i y o' hi).keep k (alike_push x ob) (fun b hd hb => hg.block b ((h.obj i y o' hi).blk_ge hd hb).2 (by simp))
    · rw [List.getElem?_append_right (by omega)] at hi
      cases hz : i - os.length with
      | zero => rw [hz] at hi; simp at hi; obtain ⟨rfl, rfl⟩ := hi; exact hob
      | succ m => rw [hz] at hi; simp at hi
  · have cs : ∀ {i : Nat} {y : Value} {o' : LObj}, (os ++ [(x, ob)])[i]? = some (y, o') → (os[i]? = some (y, o') ∧ i < os.length) ∨ (i = os.length ∧ y = x ∧ o' = ob) := by
      intro i y o' hi
      by_cases hlt : i < os.length
      · rw [List.getElem?_append_left hlt] at hi; exact .inl ⟨hi, hlt⟩
      · rw [List.getElem?_append_right (by omega)] at hi
        cases hz : i - os.length with
        | zero => rw [hz] at hi; simp at hi; exact .inr ⟨by omega, hi.1.symm, hi.2.symm⟩
        | succ m => rw [hz] at hi; simp at hi
    rcases cs hi with ⟨hi2, _⟩ | ⟨rfl, rfl, rfl⟩ <;> rcases cs hj with ⟨hj2, _⟩ | ⟨rfl, rfl, rfl⟩
    · exact h.inj i j _ _ _ _ b hi2 hj2 d1 d2 b1 b2
    · have := ((h.obj i _ _ hi2).blk_ge d1 b1).2
      have := hnew b b2
      omega
    · have := ((h.obj j _ _ hj2).blk_ge d2 b2).2
      have := hnew b b1
      omega
    · rfl

/-- an object's contents turn, in place -/
theorem Rep.update {w' : World} {i : Nat} {x : Value} {ob ob' : LObj} (h : Rep A0 w0 n os s a w) (hi : os[i]? = some (x, ob)) (hk : kindIs ob ob') (hd : ob ≠ .dead) (hd' : ob' ≠ .dead) (hg : w.grownBy w' (blk x))
    (hob : ObjOk (avoid A0 (os.set i (x, ob'))) (os.set i (x, ob')) w0 w' x ob') : Rep A0 w0 n (os.set i (x, ob')) ⟨s.env, lset s.loc i ob'⟩ a w' := by
  have hlt := (List.getElem?_eq_some_iff.1 hi).1
  have hget : ∀ {j : Nat} {y : Value} {o' : LObj}, (os.set i (x, ob'))[j]? = some (y, o') → (j = i ∧ y = x ∧ o' = ob') ∨ (j ≠ i ∧ os[j]? = some (y, o')) := by
    intro j y o' hj
    by_cases e : j = i
    · subst e
      rw [List.getElem?_set_self hlt] at hj
      cases hj
      exact .inl ⟨rfl, rfl, rfl⟩
    · rw [List.getElem?_set_ne (fun e' => e e'.symm)] at hj
      exact .inr ⟨e, hj⟩
  have hav : ∀ b, avoid A0 (os.set i (x, ob')) b → avoid A0 os b := by
    intro b hb
    rcases hb with hb | ⟨j, y, o', hj, hdd, hbb⟩
    · exact .inl hb
    · rcases hget hj with ⟨rfl, rfl, rfl⟩ | ⟨_, hj⟩
      · exact .inr ⟨_, _, _, hi, hd, hbb⟩
      · exact .inr ⟨_, _, _, hj, hdd, hbb⟩
  have halike : Alike os (os.set i (x, ob')) := by
    intro j y o' hj
    by_cases e : j = i
    · subst e
      rw [hi] at hj
      cases hj
      exact ⟨ob', List.getElem?_set_self hlt, hk⟩
    · exact ⟨o', by rw [List.getElem?_set_ne (fun e' => e e'.symm)]; exact hj, by cases o' <;> simp [kindIs]⟩
  have k : Keeps (avoid A0 os) (avoid A0 (os.set i (x, ob'))) w w' := ⟨hg.size, fun b _ hb => hav b hb, fun b hb hn => hg.block b hb (fun e => hn (.inr ⟨i, x, ob, hi, hd, e.symm⟩))⟩
  refine ⟨h.size, h.defers, Grown.trans' h.gr hg (fun g e => ((h.obj i x ob hi).blk_ge hd e).1), h.a0, by rw [lset_eq, h.loc, List.map_set], fun t => (h.env t).keep k halike, fun j y o' hj => ?_, fun j1 j2 y o1 z o2 b h1 h2 d1 d2 b1 b2 => ?_⟩
  · rcases hget hj with ⟨rfl, rfl, rfl⟩ | ⟨hne, hj⟩
    · exact hob
    · exact (h.obj j y o' hj).keep k halike (fun b hdd hb => hg.block b ((h.obj j y o' hj).blk_ge hdd hb).2 (fun e => hne (h.inj j i _ _ _ _ b hj hi hdd hd hb e.symm)))
  · rcases hget h1 with ⟨rfl, rfl, rfl⟩ | ⟨_, g1⟩ <;> rcases hget h2 with ⟨rfl, rfl, rfl⟩ | ⟨_, g2⟩
    · rfl
    · exact h.inj _ _ _ _ _ _ b hi g2 hd d2 b1 b2
    · exact h.inj _ _ _ _ _ _ b g1 hi d1 hd b1 b2
    · exact h.inj _ _ _ _ _ _ b g1 g2 d1 d2 b1 b2

/-! ## a row's handles turn -/
def mapO (f : DV → DV) : LObj → LObj
  | .cells t cs => .cells t (cs.map f)
  | .gh cs => .gh (cs.map f)
  | ob => ob
theorem mapL_eq (f : DV → DV) : ∀ l : List LObj, mapL f l = l.map (mapO f)
  | [] => rfl
  | .cells t cs :: r => by simp [mapL, mapO, mapL_eq f r]
  | .row e sz es :: r => by simp [mapL, mapO, mapL_eq f r]
  | .dead :: r => by simp [mapL, mapO, mapL_eq f r]
  | .gone :: r => by simp [mapL, mapO, mapL_eq f r]
  | .gh cs :: r => by simp [mapL, mapO, mapL_eq f r]
theorem Imm.sub {A : Nat → Prop} {w : World} {x : Value} {d : DV} (i : Nat) (r : DV) (h : Imm A w x d) : Imm A w x (sub0 i r d) ∧ Imm A w x (subD i r d) := by
  induction h with
  | v h => exact ⟨.v h, .v h⟩
  | lst xs hn hc hm hf hsz hA hb hone hcell hx _ => exact ⟨.lst xs hn hc hm hf hsz hA hb hone hcell hx, .lst xs hn hc hm hf hsz hA hb hone hcell hx⟩
  | nil => exact ⟨.nil, .nil⟩
  | nl => exact ⟨.nl, .nl⟩
  | agg hl hone h ih =>
    refine ⟨.agg hl hone h, .agg (by simpa using hl) hone (fun j v d hv hd => ?_)⟩
    rw [List.getElem?_map] at hd
    rename_i ds
    cases hj : ds[j]? with
    | none => rw [hj] at hd; cases hd
    | some e => rw [hj] at hd; simp at hd; subst hd; exact (ih j v e hv hj).1
  | tup hl h _ => exact ⟨.tup hl h, .tup hl h⟩
  | ip xs hA hb hone hcell hx _ => exact ⟨.ip xs hA hb hone hcell hx, .ip xs hA hb hone hcell hx⟩
  | fn hl h _ => exact ⟨.fn hl h, .fn hl h⟩
  | wh _ h0 ih => exact ⟨.wh (fun hb => (ih hb).1) h0, .wh (fun hb => (ih hb).2) h0⟩
  | junk => exact ⟨.junk, .junk⟩
def AlikeBut (i : Nat) (os os' : Objs) : Prop := ∀ (j : Nat) (x : Value) (ob : LObj), j ≠ i → os[j]? = some (x, ob) → ∃ ob', os'[j]? = some (x, ob') ∧ kindIs ob ob'
theorem beq_ne {i j : Nat} (h : Nat.beq i j = false) : j ≠ i := fun e => by subst e; simp at h
theorem RepV.sub {A A' : Nat → Prop} {os' : Objs} {w' : World} {i : Nat} {xi : Value} {e : TypeId} {sz : Nat} {es : List (List DV)} {r : DV} (k : Keeps A A' w w') (ha : AlikeBut i os os') (hi : os[i]? = some (xi, .row e sz es)) (hr : RepV A' os' w' xi r)
    {x : Value} {d : DV} (h : RepV A os w x d) : (x.oneCell' = true → RepV A' os' w' x (sub0 i r d)) ∧ RepV A' os' w' x (subD i r d) := by
  induction h with
  | imm h => exact ⟨fun _ => .imm ((h.keep k).sub i r).1, .imm ((h.keep k).sub i r).2⟩
  | @lp j _ _ _ _ h =>
    have hne : j ≠ i := fun e => by subst e; rw [hi] at h; cases h
    obtain ⟨o', h', hk⟩ := ha _ _ _ hne h
    cases o' <;> simp [kindIs] at hk
    exact ⟨fun _ => .lp h', .lp h'⟩
  | @ap j _ _ _ _ h =>
    have hne : j ≠ i := fun e => by subst e; rw [hi] at h; cases h
    obtain ⟨o', h', hk⟩ := ha _ _ _ hne h
    cases o' <;> simp [kindIs] at hk
    exact ⟨fun _ => .ap h', .ap h'⟩
  | @rp j kk off g n c e' sz' es' h =>
    have key : RepV A' os' w' (.pointer (some ⟨g, kk * sz' + off, none⟩)) (sub0 i r (.rp j kk off)) := by
      simp only [sub0]
      split
      · exact .imm .junk
      · rename_i hb
        obtain ⟨o', h', hk⟩ := ha _ _ _ (beq_ne hb) h
        cases o' <;> simp [kindIs] at hk
        obtain ⟨rfl, rfl⟩ := hk
        exact .rp h'
    exact ⟨fun _ => key, key⟩
  | @own j x _ _ _ h h1 =>
    have key : RepV A' os' w' x (sub0 i r (.own j)) := by
      simp only [sub0]
      split
      · rename_i hb
        have := Nat.eq_of_beq_eq_true hb
        subst this
        rw [hi] at h
        cases h
        exact hr
      · rename_i hb
        obtain ⟨o', h', hk⟩ := ha _ _ _ (beq_ne hb) h
        cases o' <;> simp [kindIs] at hk
        exact .own h' h1
    exact ⟨fun _ => key, key⟩
  | @stale j x y d h hd h1 =>
    have hne : j ≠ i := fun e => by subst e; rw [hi] at h; cases h
    obtain ⟨o', h', hk⟩ := ha _ _ _ hne h
    have hb : Nat.beq i j = false := by
      cases hb : Nat.beq i j
      · rfl
      · exact absurd (Nat.eq_of_beq_eq_true hb).symm hne
    have hk : o' = .gone := by cases o' <;> simp [kindIs] at hk; rfl
    subst hk
    rcases hd with rfl | ⟨kk, off, rfl⟩
    · have e1 : sub0 i r (.own j) = .own j := by simp [sub0, hb]
      have e2 : subD i r (.own j) = .own j := by simp [subD, e1]
      rw [e1, e2]
      exact ⟨fun _ => .stale h' (.inl rfl) h1, .stale h' (.inl rfl) h1⟩
    · have e1 : sub0 i r (.rp j kk off) = .rp j kk off := by simp [sub0, hb]
      have e2 : subD i r (.rp j kk off) = .rp j kk off := by simp [subD, e1]
      rw [e1, e2]
      exact ⟨fun _ => .stale h' (.inr ⟨_, _, rfl⟩) h1, .stale h' (.inr ⟨_, _, rfl⟩) h1⟩
  | @agg vs ds hl hone _ ih =>
    refine ⟨fun h => by simp [Value.oneCell'] at h, .agg (by simpa using hl) hone (fun j v d hv hd => ?_)⟩
    rw [List.getElem?_map] at hd
    cases hj : ds[j]? with
    | none => rw [hj] at hd; cases hd
    | some e => rw [hj] at hd; simp at hd; subst hd; exact (ih j v e hv hj).1 (hone v (List.mem_of_getElem? hv))
  | @fn f vs ds hl hcap _ ih =>
    have key : RepV A' os' w' (.func f #[] vs.toArray) (.fn f ds) := .fn hl hcap (fun j v d hv hd => by
      have hc := hcap d (List.mem_of_getElem? hd)
      have h2 := (ih j v d hv hd).2
      cases d <;> simp [isCap, plainCap] at hc <;> exact h2)
    exact ⟨fun _ => key, key⟩
  | wh _ h0 ih => exact ⟨fun h1 => .wh (fun hb => (ih hb).1 h1) h0, .wh (fun hb => (ih hb).2) h0⟩
theorem Rep.sub {w' : World} {i : Nat} {x x' : Value} {e : TypeId} {sz : Nat} {es : List (List DV)} {ob' : LObj} {r : DV} (h : Rep A0 w0 n os s a w) (hi : os[i]? = some (x, .row e sz es)) (hg : w.grownBy w' (blk x))
    (hx' : ∀ b, ob' ≠ .dead → blk x' = some b → blk x = some b ∨ w.heap.size ≤ b)
    (hob : ∀ os', os' = (os.map fun p => (p.1, mapO (sub0 i r) p.2)).set i (x', ob') → ObjOk (avoid A0 os') os' w0 w' x' ob')
    (hr : ∀ os', os' = (os.map fun p => (p.1, mapO (sub0 i r) p.2)).set i (x', ob') → RepV (avoid A0 os') os' w' x r) :
    Rep A0 w0 n ((os.map fun p => (p.1, mapO (sub0 i r) p.2)).set i (x', ob')) ⟨mapE (subD i r) s.env, lset (mapL (sub0 i r) s.loc) i ob'⟩ a w' := by
  have hob1 := hob _ rfl
  have hr1 := hr _ rfl
  clear hob hr
  generalize hos : (os.map fun p => (p.1, mapO (sub0 i r) p.2)).set i (x', ob') = os' at hob1 hr1 ⊢
  have hlt := (List.getElem?_eq_some_iff.1 hi).1
  have hdead : (LObj.row e sz es) ≠ .dead := by simp
  have hget : ∀ {j : Nat} {y : Value} {o' : LObj}, os'[j]? = some (y, o') → (j = i ∧ y = x' ∧ o' = ob') ∨ (j ≠ i ∧ ∃ o1, os[j]? = some (y, o1) ∧ o' = mapO (sub0 i r) o1) := by
    intro j y o' hj
    rw [← hos] at hj
    by_cases e : j = i
    · subst e
      rw [List.getElem?_set_self (by simpa using hlt)] at hj
      cases hj
      exact .inl ⟨rfl, rfl, rfl⟩
    · rw [List.getElem?_set_ne (fun e' => e e'.symm), List.getElem?_map] at hj
      cases hj1 : os[j]? with
      | none => rw [hj1] at hj; cases hj
      | some p => rw [hj1] at hj; cases hj; exact .inr ⟨e, _, rfl, rfl⟩
  have hdd : ∀ o1 : LObj, mapO (sub0 i r) o1 ≠ .dead ↔ o1 ≠ .dead := by intro o1; cases o1 <;> simp [mapO]
  have ha : AlikeBut i os os' := by
    intro j y o1 hne hj
    refine ⟨mapO (sub0 i r) o1, ?_, by cases o1 <;> simp [kindIs, mapO]⟩
    rw [← hos, List.getElem?_set_ne (fun e' => hne e'.symm), List.getElem?_map, hj]
    rfl
  have hav : ∀ b, b < w.heap.size → avoid A0 os' b → avoid A0 os b := by
    intro b hb hv
    rcases hv with hv | ⟨j, y, o', hj, hd, hbb⟩
    · exact .inl hv
    · rcases hget hj with ⟨rfl, rfl, rfl⟩ | ⟨_, o1, hj1, rfl⟩
      · rcases hx' b hd hbb with h2 | h2
        · exact .inr ⟨_, _, _, hi, hdead, h2⟩
        · omega
      · exact .inr ⟨_, _, _, hj1, (hdd _).1 hd, hbb⟩
  have k : Keeps (avoid A0 os) (avoid A0 os') w w' := ⟨hg.size, hav, fun b hb hn => hg.block b hb (fun e => hn (.inr ⟨i, x, _, hi, hdead, e.symm⟩))⟩
  have hsub : ∀ {y : Value} {d : DV}, RepV (avoid A0 os) os w y d → _ := fun hy => RepV.sub (os' := os') k ha hi hr1 hy
  refine ⟨h.size, h.defers, Grown.trans' h.gr hg (fun g e => ((h.obj i x _ hi).blk_ge hdead e).1), h.a0, ?_, fun t => ?_, fun j y o' hj => ?_, fun j1 j2 y o1 z o2 b h1 h2 d1 d2 b1 b2 => ?_⟩
  · rw [← hos, lset_eq, mapL_eq, h.loc, List.map_set, List.map_map, List.map_map]
    rfl
  · show RepV _ _ _ _ (look (mapE (subD i r) s.env) t)
    rw [look_mapE _ (by rfl)]
    exact (hsub (h.env t)).2
  · rcases hget hj with ⟨rfl, rfl, rfl⟩ | ⟨hne, o1, hj1, rfl⟩
    · exact hob1
    · have ho1 := h.obj j y o1 hj1
      have hbk : ∀ b, o1 ≠ .dead → blk y = some b → w'.heap[b]? = w.heap[b]? := fun b hd hb => hg.block b (ho1.blk_ge hd hb).2 (fun e => hne (h.inj j i _ _ _ _ b hj1 hi hd hdead hb e.symm))
      cases o1 with
      | dead => exact trivial
      | gone => exact ho1
      | gh ds =>
        obtain ⟨e1, e2, e3, e4⟩ := ho1
        refine ⟨e1, by simpa using e2, e3, fun i' v d hv hd => ?_⟩
        rw [List.getElem?_map] at hd
        cases hj : ds[i']? with
        | none => rw [hj] at hd; cases hd
        | some d' =>
          rw [hj] at hd
          simp at hd
          subst hd
          exact (hsub (e4 i' v d' hv hj)).1 (e3 v (List.mem_of_getElem? hv))
      | cells t cs =>
        obtain ⟨g, arr, rfl, hB, hh, hs, hone, hrr⟩ := ho1
        refine ⟨g, arr, rfl, hB, (hbk g (by simp) rfl).trans hh, by simpa using hs, hone, fun j v d hv hd => ?_⟩
        rw [List.getElem?_map] at hd
        cases hj : cs[j]? with
        | none => rw [hj] at hd; cases hd
        | some d' =>
          rw [hj] at hd
          simp at hd
          subst hd
          refine (hsub (hrr j v d' hv hj)).1 (hone v ?_)
          rw [← Array.getElem?_toList] at hv
          exact List.mem_of_getElem? hv
      | row e2 sz2 es2 =>
        obtain ⟨hmine, xs, hown, hsz, hrl, hone, hrr⟩ := ho1
        refine ⟨hmine, xs, ⟨hown.1, ?_⟩, hsz, hrl, hone, fun k' j r d h1 h2 => ?_⟩
        · rcases hown.2 with hn | ⟨g, cap, cur, rfl, hB, hh, rest⟩
          · exact .inl hn
          · exact .inr ⟨g, cap, cur, rfl, hB, (hbk g (by simp) rfl).trans hh, rest⟩
        · obtain ⟨v, hv, hi⟩ := hrr k' j r d h1 h2
          exact ⟨v, hv, hi.keep k⟩
  · rcases hget h1 with ⟨rfl, rfl, rfl⟩ | ⟨n1, p1, g1, rfl⟩ <;> rcases hget h2 with ⟨rfl, rfl, rfl⟩ | ⟨n2, p2, g2, rfl⟩
    · rfl
    · have q2 := ((h.obj _ _ _ g2).blk_ge ((hdd _).1 d2) b2).2
      rcases hx' b d1 b1 with h3 | h3
      · exact h.inj _ _ _ _ _ _ b hi g2 hdead ((hdd _).1 d2) h3 b2
      · omega
    · have q1 := ((h.obj _ _ _ g1).blk_ge ((hdd _).1 d1) b1).2
      rcases hx' b d2 b2 with h3 | h3
      · exact h.inj _ _ _ _ _ _ b g1 hi ((hdd _).1 d1) hdead b1 h3
      · omega
    · exact h.inj _ _ _ _ _ _ b g1 g2 ((hdd _).1 d1) ((hdd _).1 d2) b1 b2
end
end Go.Lift
