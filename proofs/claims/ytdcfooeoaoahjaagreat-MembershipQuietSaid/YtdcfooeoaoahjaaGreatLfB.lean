/- A data-level logic for the model: what a body does to data; its soundness (part LfB). No conditions. -/
import Derived.Test.YtdcfooeoaoahjaaGreatLfA
set_option linter.unusedSimpArgs false
set_option linter.unusedVariables false
namespace Go.Lift
open Go

structure Rep (A0 : Nat → Prop) (w0 : Home) (n : Nat) (os : Objs) (s : DS) (a : Act) (w : World) : Prop where
  size : a.tmps.size = n
  defers : a.defers = []
  gr : Grown w0.M w0.w w
  a0 : ∀ b, A0 b → ¬ w0.mine b
  loc : s.loc = os.map (·.2)
  env : ∀ t, RepV (avoid A0 os) os w (a.tmps.getD t undef) (look s.env t)
  obj : ObjsOk (avoid A0 os) os w0 w
  inj : ∀ (i j : Nat) x o y o' b, os[i]? = some (x, o) → os[j]? = some (y, o') → o ≠ .dead → o' ≠ .dead → blk x = some b → blk y = some b → i = j

section
variable {P : Program} {tt : TT} {A0 : Nat → Prop} {w0 : Home} {n : Nat} {os : Objs} {s : DS} {a : Act} {w : World} {o : Oper}

theorem grownBy.trans' {a b c : World} {r : Option Nat} (h : a.grownBy b none) (h' : b.grownBy c r) (hr : ∀ g, r = some g → a.heap.size ≤ g) : a.grownBy c none :=
  ⟨h'.os.trans h.os, h'.tape.trans h.tape, h'.output.trans h.output, Nat.le_trans h.size h'.size, fun k hk _ =>
    (h'.block k (Nat.lt_of_lt_of_le hk h.size) (fun e => by have := hr k e.symm; omega)).trans (h.block k hk (by simp))⟩
theorem Grown.trans' {h : Home} {b c : World} {r : Option Nat} (hg : Grown h.M h.w b) (h' : b.grownBy c r) (hr : ∀ g, r = some g → h.mine g) : Grown h.M h.w c :=
  ⟨h'.os.trans hg.os, h'.tape.trans hg.tape, h'.output.trans hg.output, Nat.le_trans hg.size h'.size, fun k hk hn =>
    (h'.block k (Nat.lt_of_lt_of_le hk hg.size) (fun e => by
      rcases hr k e.symm with h1 | h1
      · omega
      · exact hn h1)).trans (hg.block k hk hn)⟩
theorem Home.mine_new {h : Home} {b : World} (hg : Grown h.M h.w b) {k : Nat} (hk : b.heap.size ≤ k) : h.mine k := .inl (Nat.le_trans hg.size hk)
theorem grownBy.refl' (w : World) (r : Option Nat) : w.grownBy w r := ⟨rfl, rfl, rfl, Nat.le_refl _, fun _ _ _ => rfl⟩

theorem Rep.a0_lt (h : Rep A0 w0 n os s a w) {b : Nat} (hb : A0 b) : b < w.heap.size := by
  have h1 := h.a0 b hb
  have h2 := h.gr.size
  rcases Nat.lt_or_ge b w.heap.size with h3 | h3
  · exact h3
  · exact absurd (.inl (by omega)) h1
theorem Rep.ev (h : Rep A0 w0 n os s a w) (x : Operand) : RepV (avoid A0 os) os w (a.eval x) (ev s x) := by
  cases x with
  | tmp t => exact h.env t
  | const v =>
    show RepV _ _ _ v (cdv v)
    unfold cdv
    split
    · exact .imm .nl
    · exact .imm .junk
    · exact .imm .junk
    · exact .imm .junk
    · rename_i h1 h2 h3 h4
      refine .imm (.v ?_)
      cases v <;> first | rfl | exact absurd rfl (h3 _) | exact absurd rfl (h4 _)
  | global g => exact .imm .junk
  | func f => exact .imm (.fn (vs := []) rfl (by simp))
theorem getD_put {t u : Nat} {x : Value} (ht : t < a.tmps.size) : (a.put (some t) x).tmps.getD u undef = if u = t then x else a.tmps.getD u undef := by
  simp only [Act.put, Array.getD_eq_getD_getElem?, Array.getElem?_setIfInBounds]
  by_cases h : u = t
  · subst h; simp [ht]
  · rw [if_neg (fun e => h e.symm), if_neg h]
theorem Rep.put (h : Rep A0 w0 n os s a w) {dst : Option Tmp} {x : Value} {d : DV} (hd : ∀ t, dst = some t → t < n) (hr : RepV (avoid A0 os) os w x d) : Rep A0 w0 n os (s.put dst d) (a.put dst x) w := by
  cases dst with
  | none => exact h
  | some t =>
    have ht : t < a.tmps.size := by rw [h.size]; exact hd t rfl
    refine ⟨by simpa [Act.put] using h.size, h.defers, h.gr, h.a0, h.loc, fun u => ?_, h.obj, h.inj⟩
    rw [getD_put ht]
    simp only [DS.put, look]
    by_cases e : u = t
    · subst e
      simpa using hr
    · rw [if_neg e]
      have : Nat.beq t u = false := by
        cases hb : Nat.beq t u
        · rfl
        · exact absurd (Nat.eq_of_beq_eq_true hb).symm e
      rw [this]
      exact h.env u
theorem forceL_iff : ∀ {l : List LObj} {K : List LObj → Prop}, forceL l K ↔ K l
  | [], K => Iff.rfl
  | o :: r, K => forceL_iff (l := r)
theorem putK_iff {dst : Option Tmp} {d : DV} {K : DS → Prop} : putK s dst d K ↔ K (s.put dst d) := by
  cases s; cases dst <;> exact forceL_iff

theorem ObjOk.blk_ge {A : Nat → Prop} {B : Home} {x : Value} {ob : LObj} (h : ObjOk A os B w x ob) (hd : ob ≠ .dead) {b : Nat} (hb : blk x = some b) : B.mine b ∧ b < w.heap.size := by
  cases ob with
  | dead => exact absurd rfl hd
  | gone => have h : blk x = none := h; rw [h] at hb; cases hb
  | gh ds => obtain ⟨rfl, _⟩ := h; simp [blk] at hb
  | cells t cs =>
    obtain ⟨g, arr, rfl, hB, hh, _⟩ := h
    simp [blk] at hb
    subst hb
    exact ⟨hB, (Array.getElem?_eq_some_iff.1 hh).1⟩
  | row e sz es =>
    obtain ⟨hmine, xs, hown, _⟩ := h
    refine ⟨hmine b hb, ?_⟩
    rcases hown.2 with ⟨rfl, _⟩ | ⟨g, cap, cur, rfl, hB, hh, _⟩
    · simp [blk] at hb
    · simp [blk] at hb
      subst hb
      exact (Array.getElem?_eq_some_iff.1 hh).1
theorem ObjOk.keep {A A' : Nat → Prop} {os os' : Objs} {B : Home} {w w' : World} {x : Value} {ob : LObj} (h : ObjOk A os B w x ob) (k : Keeps A A' w w') (ha : Alike os os') (hb : ∀ b, ob ≠ .dead → blk x = some b → w'.heap[b]? = w.heap[b]?) : ObjOk A' os' B w' x ob := by
  cases ob with
  | dead => exact trivial
  | gone => exact h
  | gh ds => exact ⟨h.1, h.2.1, h.2.2.1, fun i v d hv hd => (h.2.2.2 i v d hv hd).keep k ha⟩
  | cells t cs =>
    obtain ⟨g, arr, rfl, hB, hh, hs, hone, hr⟩ := h
    exact ⟨g, arr, rfl, hB, (hb g (by simp) rfl).trans hh, hs, hone, fun j v d hv hd => (hr j v d hv hd).keep k ha⟩
  | row e sz es =>
    obtain ⟨hmine, xs, hown, hsz, hrl, hone, hr⟩ := h
    refine ⟨hmine, xs, ⟨hown.1, ?_⟩, hsz, hrl, hone, fun k' j r d h1 h2 => ?_⟩
    · rcases hown.2 with hn | ⟨g, cap, cur, rfl, hB, hh, rest⟩
      · exact .inl hn
      · exact .inr ⟨g, cap, cur, rfl, hB, (hb g (by simp) rfl).trans hh, rest⟩
    · obtain ⟨v, hv, hi⟩ := hr k' j r d h1 h2
      exact ⟨v, hv, hi.keep k⟩

theorem Rep.grown {w' : World} (h : Rep A0 w0 n os s a w) (hg : w.grownBy w' none) : Rep A0 w0 n os s a w' :=
  have k : Keeps (avoid A0 os) (avoid A0 os) w w' := .grown hg (fun _ _ h => h)
  ⟨h.size, h.defers, Grown.trans' h.gr hg (fun _ e => by cases e), h.a0, h.loc, fun t => (h.env t).keep k (.refl _),
    fun i x ob hi => (h.obj i x ob hi).keep k (.refl _) (fun b hd hb => hg.block b ((h.obj i x ob hi).blk_ge hd hb).2 (by simp)), h.inj⟩

theorem avoid_push {x : Value} {ob : LObj} {b : Nat} (h : avoid A0 (os ++ [(x, ob)]) b) : avoid A0 os b ∨ (ob ≠ .dead ∧ blk x = some b) := by
  rcases h with h | ⟨i, y, o', hi, hd, hb⟩
  · exact .inl (.inl h)
  · by_cases hlt : i < os.length
    · rw [List.getElem?_append_left hlt] at hi
      exact .inl (.inr ⟨i, y, o', hi, hd, hb⟩)
    · rw [List.getElem?_append_right (by omega)] at hi
      cases hz : i - os.length with
      | zero => rw [hz] at hi; simp at hi; obtain ⟨rfl, rfl⟩ := hi; exact .inr ⟨hd, hb⟩
      | succ m => rw [hz] at hi; simp at hi
theorem alike_push (x : Value) (ob : LObj) : Alike os (os ++ [(x, ob)]) := fun i y o' hi => by
  refine ⟨o', ?_, by cases o' <;> simp [kindIs]⟩
  rw [List.getElem?_append_left (List.getElem?_eq_some_iff.1 hi).1]
  exact hi
theorem Rep.push {w' : World} {x : Value} {ob : LObj} (h : Rep A0 w0 n os s a w) (hg : w.grownBy w' none) (hnew : ∀ b, blk x = some b → w.heap.size ≤ b) (hob : ObjOk (avoid A0 (os ++ [(x, ob)])) (os ++ [(x, ob)]) w0 w' x ob) :
    Rep A0 w0 n (os ++ [(x, ob)]) ⟨s.env, s.loc ++ [ob]⟩ a w' := by
  have k : Keeps (avoid A0 os) (avoid A0 (os ++ [(x, ob)])) w w' := .grown hg (fun b hb hv => by
    rcases avoid_push hv with hv | ⟨_, hv⟩
    · exact hv
    · have := hnew b hv; omega)
  refine ⟨h.size, h.defers, Grown.trans' h.gr hg (fun _ e => by cases e), h.a0, by simp [h.loc], fun t => (h.env t).keep k (alike_push x ob), fun i y o' hi => ?_, fun i j y o1 z o2 b hi hj d1 d2 b1 b2 => ?_⟩
  · by_cases hlt : i < os.length
    · rw [List.getElem?_append_left hlt] at hi
      exact (h.obj i y o' hi).keep k (alike_push x ob) (fun b hd hb => hg.block b ((h.obj i y o' hi).blk_ge hd hb).2 (by simp))
    · rw [List.getElem?_append_right (by omega)] at hi
      cases hz : i - os.length with
      | zero => rw [hz] at hi; simp at hi; obtain ⟨rfl, rfl⟩ := hi; exact hob
      | succ m => rw [hz] at hi; simp at hi
  · have cs : ∀ {i : Nat} {y : Value} {o' : LObj}, (os ++ [(x, ob)])[i]? = some (y, o') → (os[i]? = some (y, o') ∧ i < os.length) ∨ (i = os.length ∧ y = x ∧ o' = ob) := by
      intro i y o' hi
      by_cases hlt : i < os.length
      · rw [List.getElem?_append_left hlt] at hi; exact .inl ⟨hi, hlt⟩
      · rw [List.getElem?_append_right (by omega)] at hi
        cases hz : i - os.length with
        | zero => rw [hz] at hi; simp at hi; exact .inr ⟨by omega, hi.1.symm, hi.2.symm⟩
        | succ m => rw [hz] at hi; simp at hi
    rcases cs hi with ⟨hi2, _⟩ | ⟨rfl, rfl, rfl⟩ <;> rcases cs hj with ⟨hj2, _⟩ | ⟨rfl, rfl, rfl⟩
    · exact h.inj i j _ _ _ _ b hi2 hj2 d1 d2 b1 b2
    · have := ((h.obj i _ _ hi2).blk_ge d1 b1).2
      have := hnew b b2
      omega
    · have := ((h.obj j _ _ hj2).blk_ge d2 b2).2
      have := hnew b b1
      omega
    · rfl

theorem Rep.update {w' : World} {i : Nat} {x : Value} {ob ob' : LObj} (h : Rep A0 w0 n os s a w) (hi : os[i]? = some (x, ob)) (hk : kindIs ob ob') (hd : ob ≠ .dead) (hd' : ob' ≠ .dead) (hg : w.grownBy w' (blk x))
    (hob : ObjOk (avoid A0 (os.set i (x, ob'))) (os.set i (x, ob')) w0 w' x ob') : Rep A0 w0 n (os.set i (x, ob')) ⟨s.env, lset s.loc i ob'⟩ a w' := by
  have hlt := (List.getElem?_eq_some_iff.1 hi).1
  have hget : ∀ {j : Nat} {y : Value} {o' : LObj}, (os.set i (x, ob'))[j]? = some (y, o') → (j = i ∧ y = x ∧ o' = ob') ∨ (j ≠ i ∧ os[j]? = some (y, o')) := by
    intro j y o' hj
    by_cases e : j = i
    · subst e
      rw [List.getElem?_set_self hlt] at hj
      cases hj
      exact .inl ⟨rfl, rfl, rfl⟩
    · rw [List.getElem?_set_ne (fun e' => e e'.symm)] at hj
      exact .inr ⟨e, hj⟩
  have hav : ∀ b, avoid A0 (os.set i (x, ob')) b → avoid A0 os b := by
    intro b hb
    rcases hb with hb | ⟨j, y, o', hj, hdd, hbb⟩
    · exact .inl hb
    · rcases hget hj with ⟨rfl, rfl, rfl⟩ | ⟨_, hj⟩
      · exact .inr ⟨_, _, _, hi, hd, hbb⟩
      · exact .inr ⟨_, _, _, hj, hdd, hbb⟩
  have halike : Alike os (os.set i (x, ob')) := by
    intro j y o' hj
    by_cases e : j = i
    · subst e
      rw [hi] at hj
      cases hj
      exact ⟨ob', List.getElem?_set_self hlt, hk⟩
    · exact ⟨o', by rw [List.getElem?_set_ne (fun e' => e e'.symm)]; exact hj, by cases o' <;> simp [kindIs]⟩
  have k : Keeps (avoid A0 os) (avoid A0 (os.set i (x, ob'))) w w' := ⟨hg.size, fun b _ hb => hav b hb, fun b hb hn => hg.block b hb (fun e => hn (.inr ⟨i, x, ob, hi, hd, e.symm⟩))⟩
  refine ⟨h.size, h.defers, Grown.trans' h.gr hg (fun g e => ((h.obj i x ob hi).blk_ge hd e).1), h.a0, by rw [lset_eq, h.loc, List.map_set], fun t => (h.env t).keep k halike, fun j y o' hj => ?_, fun j1 j2 y o1 z o2 b h1 h2 d1 d2 b1 b2 => ?_⟩
  · rcases hget hj with ⟨rfl, rfl, rfl⟩ | ⟨hne, hj⟩
    · exact hob
    · exact (h.obj j y o' hj).keep k halike (fun b hdd hb => hg.block b ((h.obj j y o' hj).blk_ge hdd hb).2 (fun e => hne (h.inj j i _ _ _ _ b hj hi hdd hd hb e.symm)))
  · rcases hget h1 with ⟨rfl, rfl, rfl⟩ | ⟨_, g1⟩ <;> rcases hget h2 with ⟨rfl, rfl, rfl⟩ | ⟨_, g2⟩
    · rfl
    · exact h.inj _ _ _ _ _ _ b hi g2 hd d2 b1 b2
    · exact h.inj _ _ _ _ _ _ b g1 hi d1 hd b1 b2
    · exact h.inj _ _ _ _ _ _ b g1 g2 d1 d2 b1 b2

def mapO (f : DV → DV) : LObj → LObj
  | .cells t cs => .cells t (cs.map f)
  | .gh cs => .gh (cs.map f)
  | ob => ob
theorem mapL_eq (f : DV → DV) : ∀ l : List LObj, mapL f l = l.map (mapO f)
  | [] => rfl
  | .cells t cs :: r => by simp [mapL, mapO, mapL_eq f r]
  | .row e sz es :: r => by simp [mapL, mapO, mapL_eq f r]
  | .dead :: r => by simp [mapL, mapO, mapL_eq f r]
  | .gone :: r => by simp [mapL, mapO, mapL_eq f r]
  | .gh cs :: r => by simp [mapL, mapO, mapL_eq f r]
theorem Imm.sub {A : Nat → Prop} {w : World} {x : Value} {d : DV} (i : Nat) (r : DV) (h : Imm A w x d) : Imm A w x (sub0 i r d) ∧ Imm A w x (subD i r d) := by
  induction h with
  | v h => exact ⟨.v h, .v h⟩
  | lst xs hn hc hm hf hsz hA hb hone hcell hx _ => exact ⟨.lst xs hn hc hm hf hsz hA hb hone hcell hx, .lst xs hn hc hm hf hsz hA hb hone hcell hx⟩
  | nil => exact ⟨.nil, .nil⟩
  | nl => exact ⟨.nl, .nl⟩
  | agg hl hone h ih =>
    refine ⟨.agg hl hone h, .agg (by simpa using hl) hone (fun j v d hv hd => ?_)⟩
    rw [List.getElem?_map] at hd
    rename_i ds
    cases hj : ds[j]? with
    | none => rw [hj] at hd; cases hd
    | some e => rw [hj] at hd; simp at hd; subst hd; exact (ih j v e hv hj).1
  | @tup vs ds hl h _ =>
    refine ⟨.tup hl h, ?_⟩
    show Imm A w _ (tupJ ds)
    unfold tupJ
    split
    · exact .tup hl h
    · exact .junk
  | ip xs hA hb hone hcell hx _ => exact ⟨.ip xs hA hb hone hcell hx, .ip xs hA hb hone hcell hx⟩
  | fn hl h _ => exact ⟨.fn hl h, .fn hl h⟩
  | wh _ h0 ih => exact ⟨.wh (fun hb => (ih hb).1) h0, .wh (fun hb => (ih hb).2) h0⟩
  | junk => exact ⟨.junk, .junk⟩
def AlikeBut (i : Nat) (os os' : Objs) : Prop := ∀ (j : Nat) (x : Value) (ob : LObj), j ≠ i → os[j]? = some (x, ob) → ∃ ob', os'[j]? = some (x, ob') ∧ kindIs ob ob'
theorem beq_ne {i j : Nat} (h : Nat.beq i j = false) : j ≠ i := fun e => by subst e; simp at h
theorem RepV.sub {A A' : Nat → Prop} {os' : Objs} {w' : World} {i : Nat} {xi : Value} {e : TypeId} {sz : Nat} {es : List (List DV)} {r : DV} (k : Keeps A A' w w') (ha : AlikeBut i os os') (hi : os[i]? = some (xi, .row e sz es)) (hr : RepV A' os' w' xi r)
    {x : Value} {d : DV} (h : RepV A os w x d) : (x.oneCell' = true → RepV A' os' w' x (sub0 i r d)) ∧ RepV A' os' w' x (subD i r d) := by
  induction h with
  | imm h => exact ⟨fun _ => .imm ((h.keep k).sub i r).1, .imm ((h.keep k).sub i r).2⟩
  | @lp j _ _ _ _ h =>
    have hne : j ≠ i := fun e => by subst e; rw [hi] at h; cases h
    obtain ⟨o', h', hk⟩ := ha _ _ _ hne h
    cases o' <;> simp [kindIs] at hk
    exact ⟨fun _ => .lp h', .lp h'⟩
  | @ap j _ _ _ _ h =>
    have hne : j ≠ i := fun e => by subst e; rw [hi] at h; cases h
    obtain ⟨o', h', hk⟩ := ha _ _ _ hne h
    cases o' <;> simp [kindIs] at hk
    exact ⟨fun _ => .ap h', .ap h'⟩
  | @rp j kk off g n c e' sz' es' h =>
    have key : RepV A' os' w' (.pointer (some ⟨g, kk * sz' + off, none⟩)) (sub0 i r (.rp j kk off)) := by
      simp only [sub0]
      split
      · exact .imm .junk
      · rename_i hb
        obtain ⟨o', h', hk⟩ := ha _ _ _ (beq_ne hb) h
        cases o' <;> simp [kindIs] at hk
        obtain ⟨rfl, rfl⟩ := hk
        exact .rp h'
    exact ⟨fun _ => key, key⟩
  | @own j x _ _ _ h h1 =>
    have key : RepV A' os' w' x (sub0 i r (.own j)) := by
      simp only [sub0]
      split
      · rename_i hb
        have := Nat.eq_of_beq_eq_true hb
        subst this
        rw [hi] at h
        cases h
        exact hr
      · rename_i hb
        obtain ⟨o', h', hk⟩ := ha _ _ _ (beq_ne hb) h
        cases o' <;> simp [kindIs] at hk
        exact .own h' h1
    exact ⟨fun _ => key, key⟩
  | @stale j x y d h hd h1 =>
    have hne : j ≠ i := fun e => by subst e; rw [hi] at h; cases h
    obtain ⟨o', h', hk⟩ := ha _ _ _ hne h
    have hb : Nat.beq i j = false := by
      cases hb : Nat.beq i j
      · rfl
      · exact absurd (Nat.eq_of_beq_eq_true hb).symm hne
    have hk : o' = .gone := by cases o' <;> simp [kindIs] at hk; rfl
    subst hk
    rcases hd with rfl | ⟨kk, off, rfl⟩
    · have e1 : sub0 i r (.own j) = .own j := by simp [sub0, hb]
      have e2 : subD i r (.own j) = .own j := by simp [subD, e1]
      rw [e1, e2]
      exact ⟨fun _ => .stale h' (.inl rfl) h1, .stale h' (.inl rfl) h1⟩
    · have e1 : sub0 i r (.rp j kk off) = .rp j kk off := by simp [sub0, hb]
      have e2 : subD i r (.rp j kk off) = .rp j kk off := by simp [subD, e1]
      rw [e1, e2]
      exact ⟨fun _ => .stale h' (.inr ⟨_, _, rfl⟩) h1, .stale h' (.inr ⟨_, _, rfl⟩) h1⟩
  | @agg vs ds hl hone _ ih =>
    refine ⟨fun h => by simp [Value.oneCell'] at h, .agg (by simpa using hl) hone (fun j v d hv hd => ?_)⟩
    rw [List.getElem?_map] at hd
    cases hj : ds[j]? with
    | none => rw [hj] at hd; cases hd
    | some e => rw [hj] at hd; simp at hd; subst hd; exact (ih j v e hv hj).1 (hone v (List.mem_of_getElem? hv))
  | @tup vs ds hl hown h ih =>
    exact ⟨fun h1 => by simp [Value.oneCell'] at h1, .imm (((RepV.tup hl hown h).tupJ).keep k)⟩
  | @fn f vs ds hl hcap _ ih =>
    have key : RepV A' os' w' (.func f #[] vs.toArray) (.fn f ds) := .fn hl hcap (fun j v d hv hd => by
      have hc := hcap d (List.mem_of_getElem? hd)
      have h2 := (ih j v d hv hd).2
      cases d <;> simp [isCap, plainCap] at hc <;> exact h2)
    exact ⟨fun _ => key, key⟩
  | wh _ h0 ih => exact ⟨fun h1 => .wh (fun hb => (ih hb).1 h1) h0, .wh (fun hb => (ih hb).2) h0⟩
theorem Rep.sub {w' : World} {i : Nat} {x x' : Value} {e : TypeId} {sz : Nat} {es : List (List DV)} {ob' : LObj} {r : DV} (h : Rep A0 w0 n os s a w) (hi : os[i]? = some (x, .row e sz es)) (hg : w.grownBy w' (blk x))
    (hx' : ∀ b, ob' ≠ .dead → blk x' = some b → blk x = some b ∨ w.heap.size ≤ b)
    (hob : ∀ os', os' = (os.map fun p => (p.1, mapO (sub0 i r) p.2)).set i (x', ob') → ObjOk (avoid A0 os') os' w0 w' x' ob')
    (hr : ∀ os', os' = (os.map fun p => (p.1, mapO (sub0 i r) p.2)).set i (x', ob') → RepV (avoid A0 os') os' w' x r) :
    Rep A0 w0 n ((os.map fun p => (p.1, mapO (sub0 i r) p.2)).set i (x', ob')) ⟨mapE (subD i r) s.env, lset (mapL (sub0 i r) s.loc) i ob'⟩ a w' := by
  have hob1 := hob _ rfl
  have hr1 := hr _ rfl
  clear hob hr
  generalize hos : (os.map fun p => (p.1, mapO (sub0 i r) p.2)).set i (x', ob') = os' at hob1 hr1 ⊢
  have hlt := (List.getElem?_eq_some_iff.1 hi).1
  have hdead : (LObj.row e sz es) ≠ .dead := by simp
  have hget : ∀ {j : Nat} {y : Value} {o' : LObj}, os'[j]? = some (y, o') → (j = i ∧ y = x' ∧ o' = ob') ∨ (j ≠ i ∧ ∃ o1, os[j]? = some (y, o1) ∧ o' = mapO (sub0 i r) o1) := by
    intro j y o' hj
    rw [← hos] at hj
    by_cases e : j = i
    · subst e
      rw [List.getElem?_set_self (by simpa using hlt)] at hj
      cases hj
      exact .inl ⟨rfl, rfl, rfl⟩
    · rw [List.getElem?_set_ne (fun e' => e e'.symm), List.getElem?_map] at hj
      cases hj1 : os[j]? with
      | none => rw [hj1] at hj; cases hj
      | some p => rw [hj1] at hj; cases hj; exact .inr ⟨e, _, rfl, rfl⟩
  have hdd : ∀ o1 : LObj, mapO (sub0 i r) o1 ≠ .dead ↔ o1 ≠ .dead := by intro o1; cases o1 <;> simp [mapO]
  have ha : AlikeBut i os os' := by
    intro j y o1 hne hj
    refine ⟨mapO (sub0 i r) o1, ?_, by cases o1 <;> simp [kindIs, mapO]⟩
    rw [← hos, List.getElem?_set_ne (fun e' => hne e'.symm), List.getElem?_map, hj]
    rfl
  have hav : ∀ b, b < w.heap.size → avoid A0 os' b → avoid A0 os b := by
    intro b hb hv
    rcases hv with hv | ⟨j, y, o', hj, hd, hbb⟩
    · exact .inl hv
    · rcases hget hj with ⟨rfl, rfl, rfl⟩ | ⟨_, o1, hj1, rfl⟩
      · rcases hx' b hd hbb with h2 | h2
        · exact .inr ⟨_, _, _, hi, hdead, h2⟩
        · omega
      · exact .inr ⟨_, _, _, hj1, (hdd _).1 hd, hbb⟩
  have k : Keeps (avoid A0 os) (avoid A0 os') w w' := ⟨hg.size, hav, fun b hb hn => hg.block b hb (fun e => hn (.inr ⟨i, x, _, hi, hdead, e.symm⟩))⟩
  have hsub : ∀ {y : Value} {d : DV}, RepV (avoid A0 os) os w y d → _ := fun hy => RepV.sub (os' := os') k ha hi hr1 hy
  refine ⟨h.size, h.defers, Grown.trans' h.gr hg (fun g e => ((h.obj i x _ hi).blk_ge hdead e).1), h.a0, ?_, fun t => ?_, fun j y o' hj => ?_, fun j1 j2 y o1 z o2 b h1 h2 d1 d2 b1 b2 => ?_⟩
  · rw [← hos, lset_eq, mapL_eq, h.loc, List.map_set, List.map_map, List.map_map]
    rfl
  · show RepV _ _ _ _ (look (mapE (subD i r) s.env) t)
    rw [look_mapE _ (by rfl)]
    exact (hsub (h.env t)).2
  · rcases hget hj with ⟨rfl, rfl, rfl⟩ | ⟨hne, o1, hj1, rfl⟩
    · exact hob1
    · have ho1 := h.obj j y o1 hj1
      have hbk : ∀ b, o1 ≠ .dead → blk y = some b → w'.heap[b]? = w.heap[b]? := fun b hd hb => hg.block b (ho1.blk_ge hd hb).2 (fun e => hne (h.inj j i _ _ _ _ b hj1 hi hd hdead hb e.symm))
      cases o1 with
      | dead => exact trivial
      | gone => exact ho1
      | gh ds =>
        obtain ⟨e1, e2, e3, e4⟩ := ho1
        refine ⟨e1, by simpa using e2, e3, fun i' v d hv hd => ?_⟩
        rw [List.getElem?_map] at hd
        cases hj : ds[i']? with
        | none => rw [hj] at hd; cases hd
        | some d' =>
          rw [hj] at hd
          simp at hd
          subst hd
          exact (hsub (e4 i' v d' hv hj)).1 (e3 v (List.mem_of_getElem? hv))
      | cells t cs =>
        obtain ⟨g, arr, rfl, hB, hh, hs, hone, hrr⟩ := ho1
        refine ⟨g, arr, rfl, hB, (hbk g (by simp) rfl).trans hh, by simpa using hs, hone, fun j v d hv hd => ?_⟩
        rw [List.getElem?_map] at hd
        cases hj : cs[j]? with
        | none => rw [hj] at hd; cases hd
        | some d' =>
          rw [hj] at hd
          simp at hd
          subst hd
          refine (hsub (hrr j v d' hv hj)).1 (hone v ?_)
          rw [← Array.getElem?_toList] at hv
          exact List.mem_of_getElem? hv
      | row e2 sz2 es2 =>
        obtain ⟨hmine, xs, hown, hsz, hrl, hone, hrr⟩ := ho1
        refine ⟨hmine, xs, ⟨hown.1, ?_⟩, hsz, hrl, hone, fun k' j r d h1 h2 => ?_⟩
        · rcases hown.2 with hn | ⟨g, cap, cur, rfl, hB, hh, rest⟩
          · exact .inl hn
          · exact .inr ⟨g, cap, cur, rfl, hB, (hbk g (by simp) rfl).trans hh, rest⟩
        · obtain ⟨v, hv, hi⟩ := hrr k' j r d h1 h2
          exact ⟨v, hv, hi.keep k⟩
  · rcases hget h1 with ⟨rfl, rfl, rfl⟩ | ⟨n1, p1, g1, rfl⟩ <;> rcases hget h2 with ⟨rfl, rfl, rfl⟩ | ⟨n2, p2, g2, rfl⟩
    · rfl
    · have q2 := ((h.obj _ _ _ g2).blk_ge ((hdd _).1 d2) b2).2
      rcases hx' b d1 b1 with h3 | h3
      · exact h.inj _ _ _ _ _ _ b hi g2 hdead ((hdd _).1 d2) h3 b2
      · omega
    · have q1 := ((h.obj _ _ _ g1).blk_ge ((hdd _).1 d1) b1).2
      rcases hx' b d2 b2 with h3 | h3
      · exact h.inj _ _ _ _ _ _ b g1 hi ((hdd _).1 d1) hdead b1 h3
      · omega
    · exact h.inj _ _ _ _ _ _ b g1 g2 ((hdd _).1 d1) ((hdd _).1 d2) b1 b2
end
end Go.Lift

namespace Go.Lift
open Go

section
variable {P : Program} {tt : TT} {A0 : Nat → Prop} {w0 : Home} {n : Nat} {os : Objs} {s : DS} {a : Act} {w : World} {o : Oper} {K : DS → Prop}

def Nx (A0 : Nat → Prop) (w0 : Home) (n : Nat) (K : DS → Prop) (a : Act) (w : World) : Prop := ∃ os s, Rep A0 w0 n os s a w ∧ K s
theorem wp_value {next : Act → World → Prop} {Q : Exit → Act → World → Prop} {x : Value} {w' : World} (hrun : (execOp a.eval o).run P w = .ok (.value x) w') (h : next (a.put o.dst x) w') : o.wp P a w next Q := by
  unfold Oper.wp; rw [hrun]; exact h
theorem wp_skip' {next : Act → World → Prop} {Q : Exit → Act → World → Prop} {w' : World} (hrun : (execOp a.eval o).run P w = .ok .skip w') (h : next (a.put o.dst undef) w') : o.wp P a w next Q := by
  unfold Oper.wp; rw [hrun]; exact h
theorem Nx.put {dst : Option Tmp} {x : Value} {d : DV} (h : Rep A0 w0 n os s a w) (hd : ∀ t, dst = some t → t < n) (hr : RepV (avoid A0 os) os w x d) (hK : putK s dst d K) : Nx A0 w0 n K (a.put dst x) w :=
  ⟨os, _, h.put hd hr, putK_iff.1 hK⟩
theorem rep_gone {A : Nat → Prop} {d : DV} : RepV A os w undef (.wh false d) := .wh (fun h => by cases h) (fun _ => rfl)

theorem CellsRep.keep {A A' : Nat → Prop} {os os' : Objs} {w w' : World} {arr : Array Value} {cs : List DV} (h : CellsRep A os w arr cs) (k : Keeps A A' w w') (ha : Alike os os') : CellsRep A' os' w' arr cs :=
  ⟨h.size, h.one, fun i v d hv hd => (h.rep i v d hv hd).keep k ha⟩
theorem last_obj {x : Value} {ob : LObj} : (os ++ [(x, ob)])[os.length]? = some (x, ob) := by simp
theorem Rep.len (h : Rep A0 w0 n os s a w) : s.loc.length = os.length := by rw [h.loc]; simp
theorem keeps_push {w' : World} {x : Value} {ob : LObj} (h : Rep A0 w0 n os s a w) (hg : w.grownBy w' none) (hnew : ∀ b, blk x = some b → w.heap.size ≤ b) : Keeps (avoid A0 os) (avoid A0 (os ++ [(x, ob)])) w w' :=
  .grown hg (fun b hb hv => by
    rcases avoid_push hv with hv | ⟨_, hv⟩
    · exact hv
    · have := hnew b hv; omega)
theorem push_cells {t : TypeId} {arr : Array Value} {cs : List DV} (h : Rep A0 w0 n os s a w) (hr : CellsRep (avoid A0 os) os w arr cs) :
    Rep A0 w0 n (os ++ [(.pointer (some ⟨w.heap.size, 0, none⟩), .cells t cs)]) ⟨s.env, s.loc ++ [.cells t cs]⟩ a (w.alloc (.cells arr t)) := by
  have hnew : ∀ b, blk (.pointer (some ⟨w.heap.size, 0, none⟩)) = some b → w.heap.size ≤ b := by
    intro b hb
    simp [blk] at hb
    omega
  refine h.push (World.grownBy_alloc w _ none) hnew ?_
  have hr' := hr.keep (keeps_push (ob := .cells t cs) h (World.grownBy_alloc w (.cells arr t) none) hnew) (alike_push (.pointer (some ⟨w.heap.size, 0, none⟩)) (.cells t cs))
  exact ⟨w.heap.size, arr, rfl, Home.mine_new h.gr (Nat.le_refl _), heap_alloc_new w _, hr'.size, hr'.one, hr'.rep⟩

theorem alloc_ok (hT : tabOk P tt = true) {t : TypeId} {Q : Exit → Act → World → Prop} (ho : o.op = .alloc t) (h : Rep A0 w0 n os s a w) (hd : ∀ t, o.dst = some t → t < n) (hs : (tinfo tt t).size ≠ 0)
    (hK : putK ⟨s.env, s.loc ++ [.cells t (tinfo tt t).zero]⟩ o.dst (.lp s.loc.length 0) K) : o.wp P a w (Nx A0 w0 n K) Q := by
  obtain ⟨z, hz, hr, _⟩ := zero_run (A := avoid A0 os) (os := os) (w := w) hT hs
  have hp := push_cells (t := t) h hr
  refine wp_value (x := .pointer (some ⟨w.heap.size, 0, none⟩)) (w' := w.alloc (.cells z.cells t)) ?_ (Nx.put hp hd ?_ hK)
  · simp only [execOp, ho, Instr.alloc, Sem.run_bind, hz, Result.andThen_ok, newVar, newRow, run_newObj, Sem.run_pure, World.alloc_eq]
  · rw [h.len]
    exact .lp last_obj
theorem box_ok {t : TypeId} {x : Operand} {d : DV} {Q : Exit → Act → World → Prop} (ho : o.op = .box t x) (h : Rep A0 w0 n os s a w) (hd : ∀ t, o.dst = some t → t < n) (e : ev s x = d) (h1 : ∀ b d', d ≠ .wh b d') (h2 : ∀ l, d ≠ .tup l) (h3 : d ≠ .junk)
    (hK : putK ⟨s.env, s.loc ++ [.cells t (dcells d)]⟩ o.dst (.lp s.loc.length 0) K) : o.wp P a w (Nx A0 w0 n K) Q := by
  have hx := h.ev x
  rw [e] at hx
  obtain ⟨hl, hone, hp⟩ := hx.cells h1 h2 h3
  have hp := push_cells (t := t) h (arr := (a.eval x).cells) (cs := dcells d) ⟨by simpa using hl, hone, fun i v d hv hd => hp i v d (by simpa using hv) hd⟩
  refine wp_value (x := .pointer (some ⟨w.heap.size, 0, none⟩)) (w' := w.alloc (.cells (a.eval x).cells t)) ?_ (Nx.put hp hd ?_ hK)
  · simp only [execOp, ho, Instr.box, Sem.run_bind, Result.andThen_ok, newVar, newRow, run_newObj, Sem.run_pure, World.alloc_eq]
  · rw [h.len]
    exact .lp last_obj

theorem setRow_grown {g : Nat} {cs : Array Value} : w.grownBy (w.setRow g cs) (some g) :=
  ⟨rfl, rfl, rfl, by simp, fun k hk hne => setRow_other w g k cs (fun e => hne (by rw [e]))⟩
theorem get_lay {vs cur : List Value} {off j : Nat} (h : off + vs.length ≤ cur.length) : (cur.take off ++ vs ++ cur.drop (off + vs.length))[j]? = if off ≤ j ∧ j < off + vs.length then vs[j - off]? else cur[j]? := by
  have h1 : (cur.take off).length = off := by simp; omega
  by_cases c1 : j < off
  · rw [if_neg (by omega), List.append_assoc, List.getElem?_append_left (by omega), List.getElem?_take, if_pos c1]
  · by_cases c2 : j < off + vs.length
    · rw [if_pos ⟨by omega, c2⟩, List.getElem?_append_left (by simp; omega), List.getElem?_append_right (by omega), h1]
    · rw [if_neg (by omega), List.getElem?_append_right (by simp; omega), List.getElem?_drop]
      congr 1
      simp
      omega
theorem lay_length {vs cur : List Value} {off : Nat} (h : off + vs.length ≤ cur.length) : (cur.take off ++ vs ++ cur.drop (off + vs.length)).length = cur.length := by simp; omega
theorem store_run (hT : tabOk P tt = true) {t : TypeId} {x y : Operand} {g off : Nat} {cur : Array Value} {ty : TypeId} (ho : o.op = .store t x y) (hs : (tinfo tt t).size ≠ 0) (hx : a.eval x = .pointer (some ⟨g, off, none⟩)) (hsz : (a.eval y).cells.size = (tinfo tt t).size) (hone : ∀ v ∈ (a.eval y).cells.toList, v.oneCell' = true)
    (hg : w.heap[g]? = some (.cells cur ty (0, 0))) (hfit : off + (a.eval y).cells.size ≤ cur.size) :
    (execOp a.eval o).run P w = .ok .skip (w.setRow g (cur.toList.take off ++ (a.eval y).cells.toList ++ cur.toList.drop (off + (a.eval y).cells.toList.length)).toArray) := by
  have := run_storeCells_at P g off ty (a.eval y).cells.toList 0 cur w hg (by simpa using hfit) hone
  simp only [Nat.add_zero] at this
  have hne : ¬ ((a.eval y).cells.size ≠ (tinfo tt t).size) := fun h => h hsz
  simp only [execOp, ho, Instr.storeAt, hx, Instr.sureAddr, storeVar, Sem.run_bind, Sem.run_pure, Result.andThen_ok, run_sizeOf_tab hT hs, if_neg hne, this]

theorem store_cells_ok (hT : tabOk P tt = true) {t ty : TypeId} {x y : Operand} {i off g : Nat} {cs : List DV} {d : DV} {Q : Exit → Act → World → Prop} (ho : o.op = .store t x y) (h : Rep A0 w0 n os s a w) (hd : ∀ t, o.dst = some t → t < n)
    (hs : (tinfo tt t).size ≠ 0) (hx : a.eval x = .pointer (some ⟨g, off, none⟩)) (hi : os[i]? = some (.pointer (some ⟨g, 0, none⟩), .cells ty cs)) (e : ev s y = d) (h1 : ∀ b d', d ≠ .wh b d') (h2 : ∀ l, d ≠ .tup l) (h3 : d ≠ .junk)
    (hsz : (dcells d).length = (tinfo tt t).size) (hfit : off + (dcells d).length ≤ cs.length) (hK : putK ⟨s.env, lset s.loc i (.cells ty (dsplice cs off (dcells d)))⟩ o.dst (.wh false (.v (.bool false))) K) : o.wp P a w (Nx A0 w0 n K) Q := by
  have hy := h.ev y
  rw [e] at hy
  obtain ⟨hl, hone, hp⟩ := hy.cells h1 h2 h3
  obtain ⟨arr, hh, hasz, hB, haone, harr, _⟩ := obj_cells h.obj hi
  have hl' : (a.eval y).cells.size = (dcells d).length := by simpa using hl
  have hfit' : off + (a.eval y).cells.toList.length ≤ arr.toList.length := by simp only [Array.length_toList]; omega
  have hrun := store_run (P := P) (w := w) hT ho hs hx (by omega) hone hh (by omega)
  refine wp_skip' hrun (Nx.put (os := os.set i (.pointer (some ⟨g, 0, none⟩), .cells ty (dsplice cs off (dcells d)))) (h.update hi (ob' := .cells ty (dsplice cs off (dcells d))) rfl (by simp) (by simp) setRow_grown ?_) hd rep_gone hK)
  have halike : Alike os (os.set i (.pointer (some ⟨g, 0, none⟩), .cells ty (dsplice cs off (dcells d)))) := by
    intro j z o' hj
    by_cases e : j = i
    · subst e; rw [hi] at hj; cases hj
      exact ⟨_, List.getElem?_set_self (List.getElem?_eq_some_iff.1 hi).1, rfl⟩
    · exact ⟨o', by rw [List.getElem?_set_ne (fun e' => e e'.symm)]; exact hj, by cases o' <;> simp [kindIs]⟩
  have hkeep : Keeps (avoid A0 os) (avoid A0 (os.set i (.pointer (some ⟨g, 0, none⟩), .cells ty (dsplice cs off (dcells d))))) w (w.setRow g (arr.toList.take off ++ (a.eval y).cells.toList ++ arr.toList.drop (off + (a.eval y).cells.toList.length)).toArray) := by
    refine ⟨by simp, fun b hb hv => ?_, fun b hb hn => setRow_other w g b _ (fun e => hn (.inr ⟨i, _, _, hi, by simp, by simp [blk, e]⟩))⟩
    rcases hv with hv | ⟨j, z, o', hj, hdd, hbb⟩
    · exact .inl hv
    · by_cases e : j = i
      · subst e
        rw [List.getElem?_set_self (List.getElem?_eq_some_iff.1 hi).1] at hj
        cases hj
        exact .inr ⟨_, _, _, hi, by simp, hbb⟩
      · rw [List.getElem?_set_ne (fun e' => e e'.symm)] at hj
        exact .inr ⟨j, z, o', hj, hdd, hbb⟩
  refine ⟨g, _, rfl, hB, setRow_heap w g arr _ ty _ hh, ?_, fun v hv => ?_, fun j v d' hv hd' => ?_⟩
  · rw [List.size_toArray, lay_length hfit', length_dsplice]
    simpa using hasz
  · obtain ⟨j, hj, rfl⟩ := List.getElem_of_mem hv
    have hg2 := List.getElem?_eq_getElem hj
    simp only [] at hg2
    rw [get_lay hfit'] at hg2
    split at hg2
    · exact hone _ (List.mem_of_getElem? hg2)
    · exact haone _ (List.mem_of_getElem? hg2)
  · rw [List.getElem?_toArray, get_lay hfit'] at hv
    rw [get_dsplice _ _ _ _ hfit, ← hl] at hd'
    split at hv
    · rename_i hc
      rw [if_pos hc] at hd'
      exact (hp _ v d' hv hd').keep hkeep halike
    · rename_i hc
      rw [if_neg hc] at hd'
      exact (harr j v d' (by simpa using hv) hd').keep hkeep halike
end
end Go.Lift

namespace Go.Lift
open Go

structure RowRep (A : Nat → Prop) (w : World) (xs : List Value) (es : List (List DV)) (sz : Nat) : Prop where
  len : xs.length = es.length * sz
  rows : ∀ r ∈ es, r.length = sz
  one : ∀ v ∈ xs, v.oneCell' = true
  rep : ∀ (k j : Nat) r d, es[k]? = some r → r[j]? = some d → ∃ v, xs[k * sz + j]? = some v ∧ Imm A w v d
theorem RowRep.keep {A A' : Nat → Prop} {w w' : World} {xs : List Value} {es : List (List DV)} {sz : Nat} (h : RowRep A w xs es sz) (k : Keeps A A' w w') : RowRep A' w' xs es sz :=
  ⟨h.len, h.rows, h.one, fun k' j r d h1 h2 => by obtain ⟨v, hv, hi⟩ := h.rep k' j r d h1 h2; exact ⟨v, hv, hi.keep k⟩⟩
theorem RowRep.append {A : Nat → Prop} {w : World} {xs ys : List Value} {es fs : List (List DV)} {sz : Nat} (h : RowRep A w xs es sz) (h' : RowRep A w ys fs sz) : RowRep A w (xs ++ ys) (es ++ fs) sz := by
  refine ⟨by rw [List.length_append, List.length_append, h.len, h'.len, Nat.add_mul], fun r hr => ?_, fun v hv => ?_, fun k j r d hk hj => ?_⟩
  · rcases List.mem_append.1 hr with hr | hr
    · exact h.rows r hr
    · exact h'.rows r hr
  · rcases List.mem_append.1 hv with hv | hv
    · exact h.one v hv
    · exact h'.one v hv
  · by_cases hlt : k < es.length
    · rw [List.getElem?_append_left hlt] at hk
      obtain ⟨v, hv, hi⟩ := h.rep k j r d hk hj
      exact ⟨v, by rw [List.getElem?_append_left (List.getElem?_eq_some_iff.1 hv).1]; exact hv, hi⟩
    · rw [List.getElem?_append_right (by omega)] at hk
      obtain ⟨v, hv, hi⟩ := h'.rep _ j r d hk hj
      have hle : es.length * sz ≤ k * sz := Nat.mul_le_mul_right _ (by omega)
      refine ⟨v, ?_, hi⟩
      rw [List.getElem?_append_right (by rw [h.len]; omega), h.len]
      rw [Nat.sub_mul] at hv
      rw [← hv]
      congr 1
      omega
theorem RowRep.nil {A : Nat → Prop} {w : World} {sz : Nat} : RowRep A w [] [] sz := ⟨by simp, by simp, by simp, by simp⟩

section
variable {P : Program} {tt : TT} {A0 : Nat → Prop} {w0 : Home} {n : Nat} {os : Objs} {s : DS} {a : Act} {w : World} {o : Oper} {K : DS → Prop} {A : Nat → Prop} {B : Nat} {H : Home}

theorem row_obj {w' : World} {x : Value} {e : TypeId} {sz : Nat} {es : List (List DV)} {xs : List Value} (hmine : ∀ b, blk x = some b → H.mine b) (hown : w'.ownsRow 0 e sz x es.length xs) (hsz : 0 < sz) (hr : RowRep A w' xs es sz) : ObjOk A os H w' x (.row e sz es) :=
  ⟨hmine, xs, hown, hsz, hr.rows, hr.one, hr.rep⟩
theorem row_mine {x : Value} {e : TypeId} {sz : Nat} {es : List (List DV)} (h : ObjOk A os H w x (.row e sz es)) : ∀ b, blk x = some b → H.mine b := h.1
theorem obj_row {x : Value} {e : TypeId} {sz : Nat} {es : List (List DV)} (h : ObjOk A os H w x (.row e sz es)) : ∃ xs, w.ownsRow 0 e sz x es.length xs ∧ 0 < sz ∧ RowRep A w xs es sz := by
  obtain ⟨_, xs, hown, hsz, hr, hone, hrep⟩ := h
  exact ⟨xs, hown, hsz, ⟨hown.1, hr, hone, hrep⟩⟩

theorem lst_cells {x : Value} {sz : Nat} {es : List (List DV)} {f : Bool} (hsz : 0 < sz) (h : Imm A w x (.lst sz es f)) : (x = .slice none 0 0 ∧ es = []) ∨
    ∃ ad c xs, x = .slice (some ad) es.length c ∧ es.length ≤ c ∧ c ≤ maxLen ∧ (f = true → c = es.length) ∧ (es ≠ [] → ¬ A ad.block) ∧ (es ≠ [] → ad.block < w.heap.size) ∧ RowRep A w xs es sz ∧ ∀ (j : Nat) v, xs[j]? = some v → w.cell? (ad.add j) = some v := by
  cases h with
  | nil => exact .inl ⟨rfl, rfl⟩
  | @lst ad n c _ _ _ xs hn hc hm hf hrs hA hb hone hcell hx =>
    subst hn
    obtain ⟨vs, hl, hv⟩ := list_of (Q := fun j v => w.cell? (ad.add j) = some v ∧ v.oneCell' = true ∧ ∀ d r, es[j / sz]? = some r → r[j % sz]? = some d → Imm A w v d) (es.length * sz) (fun j hj => by
      have hq : j / sz < es.length := (Nat.div_lt_iff_lt_mul hsz).2 hj
      have hr := hrs _ (List.getElem_mem hq)
      have hm := Nat.mod_lt j hsz
      have h1 := List.getElem?_eq_getElem hq
      have h2 : es[j / sz][j % sz]? = some (es[j / sz][j % sz]'(by omega)) := List.getElem?_eq_getElem (by omega)
      refine ⟨xs (j / sz) (j % sz), ?_, hone _ _, fun d r e1 e2 => hx _ _ _ _ e1 e2⟩
      have := hcell _ _ _ _ h1 h2
      rwa [show j / sz * sz + j % sz = j by rw [Nat.mul_comm]; exact Nat.div_add_mod j sz] at this)
    refine .inr ⟨ad, c, vs, rfl, hc, hm, hf, hA, hb, ⟨hl, hrs, fun v hv' => ?_, fun k j r d hk hj => ?_⟩, fun j v hj => (hv j v hj).1⟩
    · obtain ⟨j, hj, rfl⟩ := List.getElem_of_mem hv'
      exact (hv j _ (List.getElem?_eq_getElem hj)).2.1
    · have hkl := (List.getElem?_eq_some_iff.1 hk).1
      have hrl := hrs _ (List.mem_of_getElem? hk)
      have hjl := (List.getElem?_eq_some_iff.1 hj).1
      have hlt : k * sz + j < vs.length := by
        rw [hl]
        have : (k + 1) * sz ≤ es.length * sz := Nat.mul_le_mul_right _ (by omega)
        rw [Nat.add_mul] at this
        omega
      refine ⟨vs[k * sz + j], List.getElem?_eq_getElem hlt, ?_⟩
      have h3 : (k * sz + j) / sz = k := by
        rw [Nat.mul_comm, Nat.mul_add_div hsz, Nat.div_eq_of_lt (by omega)]
        omega
      have h4 : (k * sz + j) % sz = j := by
        rw [Nat.mul_comm, Nat.mul_add_mod, Nat.mod_eq_of_lt (by omega)]
      exact (hv _ _ (List.getElem?_eq_getElem hlt)).2.2 d r (by rw [h3]; exact hk) (by rw [h4]; exact hj)

theorem own_cells {x : Value} {e : TypeId} {sz : Nat} {es : List (List DV)} {xs : List Value} (hown : w.ownsRow B e sz x es.length xs) : (x = .slice none 0 0 ∧ es = [] ∧ xs = []) ∨
    ∃ g c, x = .slice (some ⟨g, 0, none⟩) es.length c ∧ es.length ≤ c ∧ c ≤ maxLen ∧ B ≤ g ∧ g < w.heap.size ∧ ∀ (j : Nat) v, xs[j]? = some v → w.cell? (Addr.add ⟨g, 0, none⟩ j) = some v := by
  rcases hown.2 with ⟨rfl, hn⟩ | ⟨g, cap, cur, rfl, hB, hh, h1, h2, _⟩
  · have : es = [] := List.eq_nil_of_length_eq_zero hn
    subst this
    exact .inl ⟨rfl, rfl, List.eq_nil_of_length_eq_zero (by simpa using hown.1)⟩
  · exact .inr ⟨g, cap, rfl, h1, h2, hB, (Array.getElem?_eq_some_iff.1 hh).1, hown.cells (g := g) rfl⟩

theorem news_elim {x : Value} {d : DV} {e : TypeId} {K : List (List DV) → Bool → Prop} (hs : (tinfo tt e).size ≠ 0) (hO : ObjsOk A os H w) (hx : RepV A os w x d) (h : dNews tt e (os.map (·.2)) d K) :
    ∃ ys sm, K ys sm ∧ ((x = .slice none 0 0 ∧ ys = []) ∨ ∃ ad c xs, x = .slice (some ad) ys.length c ∧ RowRep A w xs ys (tinfo tt e).size ∧ ∀ (j : Nat) v, xs[j]? = some v → w.cell? (ad.add j) = some v) := by
  unfold dNews at h
  split at h
  · exact ⟨_, _, h, .inl ⟨hx.nl_inv, rfl⟩⟩
  · rename_i sz es f
    split at h
    · rename_i hb
      have hb := Nat.eq_of_beq_eq_true hb
      subst hb
      rcases lst_cells (Nat.pos_of_ne_zero hs) hx.lst_inv with ⟨rfl, rfl⟩ | ⟨ad, c, xs, rfl, _, _, _, _, _, hr, hc⟩
      · exact ⟨_, _, h, .inl ⟨rfl, rfl⟩⟩
      · exact ⟨_, _, h, .inr ⟨ad, c, xs, rfl, hr, hc⟩⟩
    · exact h.elim
  · rename_i j
    split at h
    · rename_i e2 sz es hl
      split at h
      · rename_i hb
        have hb := Nat.eq_of_beq_eq_true hb
        subst hb
        obtain ⟨x', ho'⟩ := lget_os hl (by simp)
        have hxe := hx.own_row ho'
        subst hxe
        obtain ⟨xs, hown, _, hr⟩ := obj_row (hO _ _ _ ho')
        rcases own_cells hown with ⟨rfl, rfl, rfl⟩ | ⟨g, c, rfl, _, _, _, _, hc⟩
        · exact ⟨_, _, h, .inl ⟨rfl, rfl⟩⟩
        · exact ⟨_, _, h, .inr ⟨_, c, xs, rfl, hr, hc⟩⟩
      · exact h.elim
    · exact h.elim
  · exact h.elim

theorem append_own2 (hT : tabOk P tt = true) {t ty e : TypeId} (hk : (tinfo tt t).k = .slc e) (hs : (tinfo tt e).size ≠ 0) {base : Nat} {v : Value} {m : Nat} {xs news : List Value} (hown : w.ownsRow base e (tinfo tt e).size v m xs)
    {ad : Addr} {k c : Nat} (hl : news.length = k * (tinfo tt e).size) (hnews : ∀ (j : Nat) u, news[j]? = some u → w.cell? (ad.add j) = some u) (h1 : ∀ u ∈ news, u.oneCell' = true) (hf : fitsIn tt e (m + k)) (hbase : base ≤ w.heap.size) :
    ∃ v' w', (Builtin.append_ #[t, t] ty #[v, .slice (some ad) k c]).run P w = .ok v' w' ∧ w'.ownsRow base e (tinfo tt e).size v' (m + k) (xs ++ news) ∧ w.grownBy w' (blk v) ∧ (∀ b, blk v' = some b → blk v = some b ∨ w.heap.size ≤ b) := by
  obtain ⟨i, hi, hsz, hby, z, hz, hzo, hzl⟩ := tab_size hT hs
  have hu := tab_slc hT hk
  have hzs : z.cells.size = (tinfo tt e).size := by rw [← hzl]; simpa using (zOk_all (A := fun _ => False) (w := w) hzo).1
  have hbl : v.ownBlock = blk v := by
    rcases hown.2 with ⟨rfl, _⟩ | ⟨g, cap, cur, rfl, _⟩ <;> rfl
  obtain ⟨v', w', hr, ho, hg, _⟩ := run_append_own (P := P) w base t ty e i z _ _ hu hi hz hsz hby hzs (Nat.pos_of_ne_zero hs) v m xs hown ad k c news hl hnews h1 hf.2 hf.1 hbase
  rw [hbl] at hg
  refine ⟨v', w', hr, ho, hg, ?_⟩
  rcases hown.2 with ⟨rfl, rfl⟩ | ⟨g, cap, cur, rfl, hbg, hh, hnc, hcm, hcs, htake⟩
  · by_cases hk0 : k = 0
    · subst hk0
      rcases ho.2 with ⟨rfl, _⟩ | ⟨g, cap, cur, rfl, hbg, hh, hnc, hcm, hcs, htake⟩
      · simp [blk]
      · exfalso
        have hrun : (Builtin.append_ #[t, t] ty #[.slice none 0 0, .slice (some ad) 0 c]).run P w = .ok (.slice none 0 0) w := by
          simp [Builtin.append_, run_underlying hu, sizeOf, typeInfo, hi, Builtin.lenOf, Builtin.firstCells, loadCells, loadCellsFrom]
        rw [hrun] at hr
        cases hr
    · have := run_append_nil (P := P) w t ty e i z hu hi hz ad k c news (by rw [hl, hsz]) hnews (by omega) (by have := hf.2; simp only [maxLen] at this; omega) (by have := hf.1; rw [hby]; simp only [Nat.zero_add] at this; omega)
      rw [this] at hr
      cases hr
      intro b hb
      simp [blk] at hb
      exact .inr (by omega)
  · by_cases hroom : m + k ≤ cap
    · have hfit : m * i.size + news.length ≤ cur.size := by rw [hl, hcs, hsz, ← Nat.add_mul]; exact Nat.mul_le_mul_right _ hroom
      have := run_append_room (P := P) w t ty e i hu hi g m cap cur hh ad k c news (by rw [hl, hsz]) hnews h1 hroom hfit
      rw [this] at hr
      cases hr
      intro b hb
      exact .inl hb
    · have holds : ∀ (j : Nat) u, xs[j]? = some u → w.cell? ((⟨g, 0, none⟩ : Addr).add j) = some u := hown.cells (g := g) rfl
      have := run_append_grow (P := P) w t ty e i z hu hi hz ⟨g, 0, none⟩ m cap xs (by rw [hown.1, hsz]) holds ad k c news (by rw [hl, hsz]) hnews (by omega) (by have := hf.2; simp only [maxLen] at this; omega) (by rw [hby]; exact growslice_fits (by omega) hf.1)
      rw [this] at hr
      cases hr
      intro b hb
      simp [blk] at hb
      exact .inr (by omega)

theorem row_push {w' : World} {x : Value} {e : TypeId} {sz : Nat} {es : List (List DV)} {xs : List Value} (h : Rep A0 w0 n os s a w) (hg : w.grownBy w' none) (hnew : ∀ b, blk x = some b → w.heap.size ≤ b)
    (hown : w'.ownsRow 0 e sz x es.length xs) (hsz : 0 < sz) (hr : RowRep (avoid A0 os) w xs es sz) : Rep A0 w0 n (os ++ [(x, .row e sz es)]) ⟨s.env, s.loc ++ [.row e sz es]⟩ a w' :=
  h.push hg hnew (row_obj (fun b hb => Home.mine_new h.gr (hnew b hb)) hown hsz (hr.keep (keeps_push (ob := .row e sz es) h hg hnew)))
theorem own_one {v : Value} {m : Nat} {e : TypeId} {sz : Nat} {xs : List Value} (hown : w.ownsRow B e sz v m xs) : v.oneCell' = true := by
  rcases hown.2 with ⟨rfl, _⟩ | ⟨g, cap, cur, rfl, _⟩ <;> rfl
theorem ownsRow_base {v : Value} {m B' : Nat} {e : TypeId} {sz : Nat} {xs : List Value} (hown : w.ownsRow B e sz v m xs) (h : B' ≤ B) : w.ownsRow B' e sz v m xs := by
  refine ⟨hown.1, ?_⟩
  rcases hown.2 with hn | ⟨g, cap, cur, e, hB, rest⟩
  · exact .inl hn
  · exact .inr ⟨g, cap, cur, e, Nat.le_trans h hB, rest⟩
theorem append_exec {t t' : TypeId} {x y : Operand} {args : Array Operand} {ats : Array TypeId} (ho : o.op = .call { callee := .builtin .append, args := args, argTypes := ats }) (ha : args.toList = [x, y]) (hat : ats.toList = [t, t']) (htt : t = t') {r : Value} {w' : World}
    (hr : (Builtin.append_ #[t, t] o.type #[a.eval x, a.eval y]).run P w = .ok r w') : (execOp a.eval o).run P w = .ok (.value r) w' := by
  obtain rfl : args = #[x, y] := by cases args; simp at ha; simp [ha]
  subst htt
  obtain rfl : ats = #[t, t] := by cases ats; simp at hat; simp [hat]
  simp only [execOp, ho, resolve, invoke, builtin, Sem.run_bind, Sem.run_pure, Result.andThen_ok, List.map_toArray, List.map_cons, List.map_nil, hr]
theorem append_none {t ty e : TypeId} (hT : tabOk P tt = true) (hk : (tinfo tt t).k = .slc e) (hs : (tinfo tt e).size ≠ 0) {ad : Option Addr} {m c : Nat} (hmc : m ≤ c) :
    (Builtin.append_ #[t, t] ty #[.slice ad m c, .slice none 0 0]).run P w = .ok (.slice ad m c) w := by
  obtain ⟨i, hi, hsz, _⟩ := tab_size hT hs
  have hu := tab_slc hT hk
  cases ad <;> simp [Builtin.append_, run_underlying hu, sizeOf, typeInfo, hi, Builtin.lenOf, Builtin.firstCells, hmc, storeCells]
theorem append_zero {t ty e : TypeId} (hT : tabOk P tt = true) (hk : (tinfo tt t).k = .slc e) (hs : (tinfo tt e).size ≠ 0) {ad ad' : Option Addr} {m c c' : Nat} (hmc : m ≤ c) :
    (Builtin.append_ #[t, t] ty #[.slice ad m c, .slice ad' 0 c']).run P w = .ok (.slice ad m c) w := by
  obtain ⟨i, hi, hsz, _⟩ := tab_size hT hs
  have hu := tab_slc hT hk
  cases ad <;> cases ad' <;> simp [Builtin.append_, run_underlying hu, sizeOf, typeInfo, hi, Builtin.lenOf, Builtin.firstCells, hmc, storeCells, loadCells, loadCellsFrom]

abbrev NewsOf (A : Nat → Prop) (w : World) (sz : Nat) (y : Value) (ys : List (List DV)) : Prop :=
  (y = .slice none 0 0 ∧ ys = []) ∨ ∃ ad c xs, y = .slice (some ad) ys.length c ∧ RowRep A w xs ys sz ∧ ∀ (j : Nat) v, xs[j]? = some v → w.cell? (ad.add j) = some v
theorem app_nl (hT : tabOk P tt = true) {t ty e : TypeId} (hk : (tinfo tt t).k = .slc e) (hs : (tinfo tt e).size ≠ 0) {y : Value} {ys : List (List DV)} (hfit : fitsIn tt e ys.length) (hy : NewsOf A w (tinfo tt e).size y ys) :
    ∃ v' w' xs, (Builtin.append_ #[t, t] ty #[.slice none 0 0, y]).run P w = .ok v' w' ∧ w'.ownsRow 0 e (tinfo tt e).size v' ys.length xs ∧ w.grownBy w' none ∧ (∀ b, blk v' = some b → w.heap.size ≤ b) ∧ RowRep A w xs ys (tinfo tt e).size := by
  rcases hy with ⟨rfl, rfl⟩ | ⟨ad, c, news, rfl, hr, hc⟩
  · exact ⟨_, _, [], append_none hT hk hs (Nat.le_refl 0), ⟨by simp, .inl ⟨rfl, rfl⟩⟩, grownBy.refl' w none, by simp [blk], .nil⟩
  · obtain ⟨v', w', hrun, hown, hg, hb⟩ := append_own2 (P := P) (ty := ty) hT hk hs (World.ownsRow_nil w 0 e (tinfo tt e).size) hr.len hc hr.one (by simpa using hfit) (Nat.zero_le _)
    rw [Nat.zero_add, List.nil_append] at hown
    exact ⟨v', w', news, hrun, hown, hg, fun b hb' => by rcases hb b hb' with h1 | h1; simp [blk] at h1; exact h1, hr⟩
theorem app_own (hT : tabOk P tt = true) {t ty e : TypeId} (hk : (tinfo tt t).k = .slc e) (hs : (tinfo tt e).size ≠ 0) {x y : Value} {es ys : List (List DV)} {xs : List Value} (hown : w.ownsRow 0 e (tinfo tt e).size x es.length xs) (hrr : RowRep A w xs es (tinfo tt e).size)
    (hfit : fitsIn tt e (es.length + ys.length)) (hy : NewsOf A w (tinfo tt e).size y ys) :
    ∃ v' w' xs', (Builtin.append_ #[t, t] ty #[x, y]).run P w = .ok v' w' ∧ w'.ownsRow 0 e (tinfo tt e).size v' (es ++ ys).length xs' ∧ w.grownBy w' (blk x) ∧ (∀ b, blk v' = some b → blk x = some b ∨ w.heap.size ≤ b) ∧ RowRep A w xs' (es ++ ys) (tinfo tt e).size := by
  rcases hy with ⟨rfl, rfl⟩ | ⟨ad, c, news, rfl, hr, hc⟩
  · have hrun : (Builtin.append_ #[t, t] ty #[x, .slice none 0 0]).run P w = .ok x w := by
      rcases own_cells hown with ⟨hv, _, _⟩ | ⟨g, cc, hv, hle, _⟩
      · rw [hv]; exact append_none hT hk hs (Nat.le_refl 0)
      · rw [hv]; exact append_none hT hk hs hle
    exact ⟨x, w, xs, hrun, by simpa using hown, grownBy.refl' _ _, fun b hb => .inl hb, by simpa using hrr⟩
  · obtain ⟨v', w', hrun, hown', hg, hb⟩ := append_own2 (P := P) (ty := ty) hT hk hs hown hr.len hc hr.one hfit (Nat.zero_le _)
    exact ⟨v', w', xs ++ news, hrun, by rw [List.length_append]; exact hown', hg, hb, hrr.append hr⟩
theorem app_full (hT : tabOk P tt = true) {t ty e : TypeId} (hk : (tinfo tt t).k = .slc e) (hs : (tinfo tt e).size ≠ 0) {x y : Value} {es ys : List (List DV)} (hx : Imm A w x (.lst (tinfo tt e).size es true))
    (hfit : fitsIn tt e (es.length + ys.length)) (hy : NewsOf A w (tinfo tt e).size y ys) (hys : 0 < ys.length) :
    ∃ v' w' xs, (Builtin.append_ #[t, t] ty #[x, y]).run P w = .ok v' w' ∧ w'.ownsRow 0 e (tinfo tt e).size v' (es ++ ys).length xs ∧ w.grownBy w' none ∧ (∀ b, blk v' = some b → w.heap.size ≤ b) ∧ RowRep A w xs (es ++ ys) (tinfo tt e).size := by
  have hpos := Nat.pos_of_ne_zero hs
  rcases hy with ⟨rfl, rfl⟩ | ⟨ad, c, news, rfl, hr, hc⟩
  · simp at hys
  · rcases lst_cells hpos hx with ⟨rfl, rfl⟩ | ⟨ad', c', xs, rfl, hle, hm, hf, _, _, hrr, hcx⟩
    · obtain ⟨v', w', xs, h1, h2, h3, h4, h5⟩ := app_nl (P := P) (ty := ty) (A := A) (w := w) hT hk hs (ys := ys) (y := .slice (some ad) ys.length c) (by simpa using hfit) (.inr ⟨ad, c, news, rfl, hr, hc⟩)
      exact ⟨v', w', xs, h1, by simpa using h2, h3, h4, by simpa using h5⟩
    · have hcf := hf rfl
      obtain ⟨i, hi, hsz, hby, z, hz, hzo, hzl⟩ := tab_size hT hs
      have hu := tab_slc hT hk
      have hzs : z.cells.size = (tinfo tt e).size := by rw [← hzl]; simpa using (zOk_all (A := fun _ => False) (w := w) hzo).1
      have hrun := run_append_grow (P := P) w t ty e i z hu hi hz ad' es.length c' xs (by rw [hrr.len, hsz]) hcx ad ys.length c news (by rw [hr.len, hsz]) hc (by omega) (by have := hfit.2; simp only [maxLen] at this; omega) (by rw [hby]; exact growslice_fits (by omega) hfit.1)
      refine ⟨_, _, xs ++ news, hrun, ⟨by rw [(hrr.append hr).len], .inr ⟨w.heap.size, _, _, by rw [List.length_append], Nat.zero_le _, heap_alloc_new w.drew _, ?_, ?_, ?_, ?_⟩⟩, ⟨rfl, rfl, rfl, by simp, fun k2 hk2 _ => (World.grownBy_alloc w.drew _ none).block k2 hk2 (by simp)⟩, fun b hb => by simp [blk] at hb; omega, hrr.append hr⟩
      · rw [List.length_append]; exact grownCap_ge w _ _ e
      · exact grownCap_le_maxLen w _ _ e hfit.2
      · have hge := grownCap_ge w (es.length + ys.length) c' e
        simp only [Array.size_append, List.size_toArray, size_zeroCells, hzs, hrr.len, hr.len, ← Nat.add_mul]
        congr 1
        omega
      · simp only [Array.toList_append, List.append_assoc]
        rw [← List.append_assoc, ← (hrr.append hr).len]
        exact List.take_left

theorem append_ok (hT : tabOk P tt = true) {t t' e : TypeId} {x y : Operand} {args : Array Operand} {ats : Array TypeId} {Q : Exit → Act → World → Prop} (ho : o.op = .call { callee := .builtin .append, args := args, argTypes := ats }) (ha : args.toList = [x, y]) (hat : ats.toList = [t, t']) (htt : t = t')
    (hk : (tinfo tt t).k = .slc e) (hs : (tinfo tt e).size ≠ 0) (h : Rep A0 w0 n os s a w) (hd : ∀ t, o.dst = some t → t < n) (hK : dAppend tt e s o.dst (ev s x) (ev s y) K) : o.wp P a w (Nx A0 w0 n K) Q := by
  unfold dAppend at hK
  rw [h.loc] at hK
  obtain ⟨ys, sm, hK, hy⟩ := news_elim hs h.obj (h.ev y) hK
  have hx := h.ev x
  have hpos := Nat.pos_of_ne_zero hs
  have exec := fun {r : Value} {w' : World} => append_exec (P := P) (w := w) (a := a) (r := r) (w' := w') ho ha hat htt
  split at hK
  · -- nil base
    rename_i ex
    rw [ex] at hx
    have hxv := hx.nl_inv
    obtain ⟨hfit, hK⟩ := hK
    rcases hy with ⟨hyv, rfl⟩ | ⟨ad, c, news, hyv, hr, hc⟩
    · have hrun := append_none (w := w) (ty := o.type) hT hk hs (ad := none) (Nat.le_refl 0)
      refine wp_value (exec (by rw [hxv, hyv]; exact hrun)) ?_
      have hp := row_push (x := .slice none 0 0) (e := e) (sz := (tinfo tt e).size) (es := []) (xs := []) h (grownBy.refl' w none) (by simp [blk]) ⟨by simp, .inl ⟨rfl, rfl⟩⟩ hpos .nil
      rw [← h.loc] at hK
      exact Nx.put hp hd (by rw [h.len]; exact .own last_obj rfl) hK
    · obtain ⟨v', w', hrun, hown, hg, hb⟩ := append_own2 (P := P) (ty := o.type) hT hk hs (World.ownsRow_nil w 0 e (tinfo tt e).size) hr.len hc hr.one (by simpa using hfit) (Nat.zero_le _)
      rw [Nat.zero_add, List.nil_append] at hown
      refine wp_value (exec (by rw [hxv, hyv]; exact hrun)) ?_
      have hp := row_push (es := ys) h hg (fun b hb' => by rcases hb b hb' with h1 | h1; simp [blk] at h1; exact h1) hown hpos hr
      rw [← h.loc] at hK
      exact Nx.put hp hd (by rw [h.len]; exact .own last_obj (own_one hown)) hK
  · -- a row of the call's own
    rename_i i ex
    rw [ex] at hx
    split at hK
    · rename_i e3 sz es3 hl
      split at hK
      · rename_i hb
        simp only [Bool.and_eq_true] at hb
        have hb1 := Nat.eq_of_beq_eq_true hb.1
        have hb2 := Nat.eq_of_beq_eq_true hb.2
        subst hb1; subst hb2
        obtain ⟨x', hi⟩ := lget_os hl (by simp)
        have hxe := hx.own_row hi
        subst hxe
        obtain ⟨hfit, hK⟩ := hK
        obtain ⟨xs, hown, _, hrr⟩ := obj_row (h.obj _ _ _ hi)
        have fin : ∀ {v' : Value} {w' : World} {news : List Value}, (Builtin.append_ #[t, t] o.type #[a.eval x, a.eval y]).run P w = .ok v' w' → w'.ownsRow 0 e3 (tinfo tt e3).size v' (es3.length + ys.length) (xs ++ news) → w.grownBy w' (blk (a.eval x)) →
            (∀ b, blk v' = some b → blk (a.eval x) = some b ∨ w.heap.size ≤ b) → RowRep (avoid A0 os) w news ys (tinfo tt e3).size → o.wp P a w (Nx A0 w0 n K) Q := by
          intro v' w' news hrun hown' hg hb hr
          refine wp_value (exec hrun) ?_
          have hs2 := h.sub (i := i) (r := .junk) (x' := v') (ob' := .row e3 (tinfo tt e3).size (es3 ++ ys)) hi hg (fun b _ hbb => hb b hbb) (fun os' hos' => ?_) (fun os' _ => .imm .junk)
          · have hK' : putK ⟨mapE (subD i .junk) s.env, lset (mapL (sub0 i .junk) s.loc) i (.row e3 (tinfo tt e3).size (es3 ++ ys))⟩ o.dst (.own i) K := hK
            refine Nx.put hs2 hd (.own (e := e3) (sz := (tinfo tt e3).size) (es := es3 ++ ys) ?_ (own_one hown')) hK'
            rw [List.getElem?_set_self (by simpa using (List.getElem?_eq_some_iff.1 hi).1)]
          · have hkeep : Keeps (avoid A0 os) (avoid A0 os') w w' := by
              refine ⟨hg.size, fun b hbl hv => ?_, fun b hbl hn => hg.block b hbl (fun e => hn (.inr ⟨i, _, _, hi, by simp, e.symm⟩))⟩
              rcases hv with hv | ⟨j, z, o', hj, hdd, hbb⟩
              · exact .inl hv
              · rw [hos'] at hj
                by_cases e : j = i
                · subst e
                  rw [List.getElem?_set_self (by simpa using (List.getElem?_eq_some_iff.1 hi).1)] at hj
                  cases hj
                  rcases hb b hbb with h2 | h2
                  · exact .inr ⟨_, _, _, hi, by simp, h2⟩
                  · omega
                · rw [List.getElem?_set_ne (fun e' => e e'.symm), List.getElem?_map] at hj
                  cases hj1 : os[j]? with
                  | none => rw [hj1] at hj; cases hj
                  | some p =>
                    rw [hj1] at hj
                    cases hj
                    exact .inr ⟨j, _, _, hj1, fun e => hdd (by rw [e]; rfl), hbb⟩
            exact row_obj (es := es3 ++ ys) (fun b hbb => (hb b hbb).elim (row_mine (h.obj _ _ _ hi) b) (Home.mine_new h.gr)) (by rw [List.length_append]; exact hown') hpos ((hrr.append hr).keep hkeep)
        rcases hy with ⟨hyv, rfl⟩ | ⟨ad, c, news, hyv, hr, hc⟩
        · have hrun : (Builtin.append_ #[t, t] o.type #[a.eval x, a.eval y]).run P w = .ok (a.eval x) w := by
            rw [hyv]
            rcases own_cells hown with ⟨hv, _, _⟩ | ⟨g, cc, hv, hle, _⟩
            · rw [hv]; exact append_none hT hk hs (Nat.le_refl 0)
            · rw [hv]; exact append_none hT hk hs hle
          exact fin (news := []) hrun (by simpa using hown) (grownBy.refl' _ _) (fun b hb => .inl hb) .nil
        · obtain ⟨v', w', hrun, hown', hg, hb⟩ := append_own2 (P := P) (ty := o.type) hT hk hs hown hr.len hc hr.one hfit (Nat.zero_le _)
          exact fin (by rw [hyv]; exact hrun) hown' hg hb hr
      · exact hK.elim
    · exact hK.elim
  · -- a list without spare room
    rename_i sz es ex
    rw [ex] at hx
    split at hK
    · rename_i hb
      have hb := Nat.eq_of_beq_eq_true hb
      subst hb
      obtain ⟨hfit, hK⟩ := hK
      have hxl := lst_cells hpos hx.lst_inv
      have big : ∀ {ad : Addr} {c : Nat} {news : List Value}, a.eval y = .slice (some ad) ys.length c → RowRep (avoid A0 os) w news ys (tinfo tt e).size → (∀ (j : Nat) v, news[j]? = some v → w.cell? (ad.add j) = some v) → 0 < ys.length →
          ∃ v' w' xs, (Builtin.append_ #[t, t] o.type #[a.eval x, a.eval y]).run P w = .ok v' w' ∧ w'.ownsRow w.heap.size e (tinfo tt e).size v' (es ++ ys).length xs ∧ w.grownBy w' none ∧ RowRep (avoid A0 os) w xs (es ++ ys) (tinfo tt e).size := by
        intro ad c news hyv hr hc hys
        rcases hxl with ⟨hxv, rfl⟩ | ⟨ad', c', xs, hxv, hle, hm, hf, _, _, hrr, hcx⟩
        · obtain ⟨v', w', hrun, hown, hg, hb⟩ := append_own2 (P := P) (ty := o.type) hT hk hs (World.ownsRow_nil w w.heap.size e (tinfo tt e).size) hr.len hc hr.one (by simpa using hfit) (Nat.le_refl _)
          rw [Nat.zero_add, List.nil_append] at hown
          exact ⟨v', w', news, by rw [hxv, hyv]; exact hrun, hown, hg, hr⟩
        · have hcf := hf rfl
          obtain ⟨i, hi, hsz, hby, z, hz, hzo, hzl⟩ := tab_size hT hs
          have hu := tab_slc hT hk
          have hzs : z.cells.size = (tinfo tt e).size := by rw [← hzl]; simpa using (zOk_all (A := fun _ => False) (w := w) hzo).1
          have hrun := run_append_grow (P := P) w t o.type e i z hu hi hz ad' es.length c' xs (by rw [hrr.len, hsz]) hcx ad ys.length c news (by rw [hr.len, hsz]) hc (by omega) (by have := hfit.2; simp only [maxLen] at this; omega) (by rw [hby]; exact growslice_fits (by omega) hfit.1)
          refine ⟨_, _, xs ++ news, by rw [hxv, hyv]; exact hrun, ⟨by rw [(hrr.append hr).len], .inr ⟨w.heap.size, _, _, by rw [List.length_append], Nat.le_refl _, heap_alloc_new w.drew _, ?_, ?_, ?_, ?_⟩⟩, ⟨rfl, rfl, rfl, by simp, fun k2 hk2 _ => (World.grownBy_alloc w.drew _ none).block k2 hk2 (by simp)⟩, hrr.append hr⟩
          · rw [List.length_append]; exact grownCap_ge w _ _ e
          · exact grownCap_le_maxLen w _ _ e hfit.2
          · have hge := grownCap_ge w (es.length + ys.length) c' e
            simp only [Array.size_append, List.size_toArray, size_zeroCells, hzs, hrr.len, hr.len, ← Nat.add_mul]
            congr 1
            omega
          · simp only [Array.toList_append, List.append_assoc]
            rw [← List.append_assoc, ← (hrr.append hr).len]
            exact List.take_left
      split at hK
      · obtain ⟨hys, hK⟩ := hK
        rcases hy with ⟨hyv, rfl⟩ | ⟨ad, c, news, hyv, hr, hc⟩
        · simp at hys
        · obtain ⟨v', w', xs, hrun, hown, hg, hrx⟩ := big hyv hr hc hys
          refine wp_value (exec hrun) ?_
          have hp := row_push (es := es ++ ys) h hg (fun b hb' => by
            rcases own_cells hown with ⟨rfl, _⟩ | ⟨g, cc, rfl, _, _, hB, _⟩
            · simp [blk] at hb'
            · simp [blk] at hb'; omega) (ownsRow_base hown (Nat.zero_le _)) hpos hrx
          rw [← h.loc] at hK
          exact Nx.put hp hd (by rw [h.len]; exact .own last_obj (own_one hown)) hK
      · by_cases hys : ys = []
        · subst hys
          have hrun : (Builtin.append_ #[t, t] o.type #[a.eval x, a.eval y]).run P w = .ok (a.eval x) w := by
            have hyz : ∃ ad' c', a.eval y = .slice ad' 0 c' := by
              rcases hy with ⟨hyv, _⟩ | ⟨ad, c, news, hyv, _⟩
              · exact ⟨_, _, hyv⟩
              · exact ⟨_, _, hyv⟩
            obtain ⟨ad', c', hyv⟩ := hyz
            rw [hyv]
            rcases hxl with ⟨hxv, _⟩ | ⟨ad2, c2, xs, hxv, hle, _⟩
            · rw [hxv]; exact append_zero hT hk hs (Nat.le_refl 0)
            · rw [hxv]; exact append_zero hT hk hs hle
          refine wp_value (exec hrun) (Nx.put h hd ?_ hK)
          rw [List.append_nil]
          have him := hx.lst_inv
          generalize a.eval x = xv at him
          cases him with
          | lst xs hn hc hm hf hsz hA hb hone hcell hxx => exact .imm (.lst xs hn hc hm (by simp) hsz hA hb hone hcell hxx)
          | nil => exact .imm .nil
        · rcases hy with ⟨hyv, hn⟩ | ⟨ad, c, news, hyv, hr, hc⟩
          · exact absurd hn hys
          · obtain ⟨v', w', xs, hrun, hown, hg, hrx⟩ := big hyv hr hc (List.length_pos_iff.2 hys)
            refine wp_value (exec hrun) (Nx.put (h.grown hg) hd ?_ hK)
            have hrx' := hrx.keep (Keeps.grown (A := avoid A0 os) (A' := avoid A0 os) hg (fun _ _ h => h))
            rcases own_cells hown with ⟨rfl, hnil, _⟩ | ⟨g, cc, rfl, hle, hm, hB, hgs, hcell⟩
            · simp [hys] at hnil
            · have hA : ¬ avoid A0 os g := by
                rintro (h1 | ⟨j, z, o', hj, hdd, hbb⟩)
                · have := h.a0_lt h1
                  omega
                · have := ((h.obj j z o' hj).blk_ge hdd hbb).2
                  omega
              refine .imm (.lst (fun k j => xs.getD (k * (tinfo tt e).size + j) .nilFunc) rfl hle hm (by simp) hrx.rows (fun _ => hA) (fun _ => hgs) (fun k j => ?_) (fun k j r d h1 h2 => ?_) (fun k j r d h1 h2 => ?_))
              · cases hq : xs[k * (tinfo tt e).size + j]? with
                | none => simp [List.getD, hq]; rfl
                | some v => simp [List.getD, hq]; exact hrx.one v (List.mem_of_getElem? hq)
              · obtain ⟨v, hv, _⟩ := hrx'.rep k j r d h1 h2
                rw [hcell _ v hv]
                simp [List.getD, hv]
              · obtain ⟨v, hv, hi⟩ := hrx'.rep k j r d h1 h2
                simp only [List.getD, hv]
                exact hi
    · exact hK.elim
  · exact hK.elim
end
end Go.Lift

namespace Go.Lift
open Go

section
variable {P : Program} {tt : TT} {A0 : Nat → Prop} {w0 : Home} {n : Nat} {os : Objs} {s : DS} {a : Act} {w : World} {o : Oper} {K : DS → Prop} {A : Nat → Prop} {B : Nat} {H : Home}

theorem made_row {z : Array Value} {zero : List DV} {m N : Nat} (hz : CellsRep A os w z zero) (hzi : ∀ (i : Nat) v d, z[i]? = some v → zero[i]? = some d → Imm A w v d) (hpos : 0 < zero.length) (hm : m ≤ N) :
    RowRep A w ((madeCells z (N * zero.length)).toList.take (m * zero.length)) (List.replicate m zero) zero.length := by
  have hle : m * zero.length ≤ N * zero.length := Nat.mul_le_mul_right _ hm
  have hzs := hz.size
  have hg : ∀ q, q < N * zero.length → (madeCells z (N * zero.length))[q]? = some (z[q % z.size]!) := by
    intro q hq
    simp [madeCells, hq]
  have hzq : ∀ q, z[q % z.size]? = some (z[q % z.size]!) := by
    intro q
    have : q % z.size < z.size := Nat.mod_lt _ (by omega)
    simp [this]
  have hml : (madeCells z (N * zero.length)).toList.length = N * zero.length := (Array.length_toList (xs := madeCells z (N * zero.length))).trans (size_madeCells _ _)
  refine ⟨by rw [List.length_take, hml, List.length_replicate]; omega, fun r hr => by rw [(List.mem_replicate.1 hr).2], fun v hv => ?_, fun k j r d hk hj => ?_⟩
  · obtain ⟨q, hq, rfl⟩ := List.getElem_of_mem hv
    have h1 := List.getElem?_eq_getElem hq
    rw [List.getElem?_take] at h1
    split at h1
    · rw [Array.getElem?_toList, hg q (by omega)] at h1
      rw [← Option.some.inj h1]
      have := hzq q
      rw [← Array.getElem?_toList] at this
      exact hz.one _ (List.mem_of_getElem? this)
    · cases h1
  · have hkl : k < m := by have := (List.getElem?_eq_some_iff.1 hk).1; simpa using this
    have hr : r = zero := by rw [List.getElem?_replicate] at hk; split at hk <;> simp_all
    subst hr
    have hjl := (List.getElem?_eq_some_iff.1 hj).1
    have h1 : (k + 1) * r.length ≤ m * r.length := Nat.mul_le_mul_right _ (by omega)
    rw [Nat.add_mul, Nat.one_mul] at h1
    refine ⟨z[(k * r.length + j) % z.size]!, ?_, ?_⟩
    · rw [List.getElem?_take, if_pos (by omega), Array.getElem?_toList, hg _ (by omega)]
    · have hmod : (k * r.length + j) % z.size = j := by
        rw [hzs, Nat.mul_comm, Nat.mul_add_mod, Nat.mod_eq_of_lt hjl]
      have := hzq (k * r.length + j)
      rw [hmod] at this ⊢
      exact hzi j _ d this hj

theorem makeSlice_ok (hT : tabOk P tt = true) {t e : TypeId} {l c : Operand} {kl kc : IntKind} {m N : Nat} {Q : Exit → Act → World → Prop} (ho : o.op = .makeSlice t l c) (hk : (tinfo tt t).k = .slc e) (hs : (tinfo tt e).size ≠ 0)
    (h : Rep A0 w0 n os s a w) (hd : ∀ t, o.dst = some t → t < n) (hl : a.eval l = .int kl m) (hc : a.eval c = .int kc N) (hmN : m ≤ N) (hb : N * (tinfo tt e).bytes ≤ 140737488355328) (hM : N ≤ maxLen)
    (hK : putK ⟨s.env, s.loc ++ [.row e (tinfo tt e).size (List.replicate m (tinfo tt e).zero)]⟩ o.dst (.own s.loc.length) K) : o.wp P a w (Nx A0 w0 n K) Q := by
  obtain ⟨i, hi, hsz, hby, z, hz, hzo, hzl⟩ := tab_size hT hs
  have hu := tab_slc hT hk
  obtain ⟨h1, h2, h3⟩ := zOk_all (A := avoid A0 os) (w := w) hzo
  have hcr : CellsRep (avoid A0 os) os w z.cells (tinfo tt e).zero := ⟨by simpa using h1, h2, fun i v d hv hd => .imm (h3 i v d (by simpa using hv) hd)⟩
  have hM' : (N : Int) ≤ 9223372036854775807 := by simp only [maxLen] at hM; omega
  have hrun := run_make (P := P) w t e i z hu hi hz kl kc m N (by omega) (by omega) (by
    have : ((i.bytes * N : Nat) : Int) ≤ 281474976710656 := by rw [hby, Nat.mul_comm]; omega
    rwa [Int.natCast_mul] at this) hM'
  simp only [Int.toNat_natCast, hsz] at hrun
  have hpos := Nat.pos_of_ne_zero hs
  have hrow := made_row (N := N) (m := m) hcr (fun i v d hv hd => h3 i v d (by simpa using hv) hd) (by omega) hmN
  rw [hzl] at hrow
  have hlen : (List.replicate m (tinfo tt e).zero).length = m := by simp
  have hp := row_push (w' := w.alloc (.cells (madeCells z.cells (N * (tinfo tt e).size)) e)) (x := .slice (some ⟨w.heap.size, 0, none⟩) m N) (e := e) (sz := (tinfo tt e).size) h (World.grownBy_alloc w _ none) (fun b hb => by simp [blk] at hb; omega)
    (xs := (madeCells z.cells (N * (tinfo tt e).size)).toList.take (m * (tinfo tt e).size)) ⟨by rw [hrow.len], .inr ⟨w.heap.size, N, _, by rw [hlen], Nat.zero_le _, heap_alloc_new w _, by rw [hlen]; exact hmN, hM, size_madeCells _ _, by rw [hlen]⟩⟩ hpos hrow
  refine wp_value (x := .slice (some ⟨w.heap.size, 0, none⟩) m N) (w' := w.alloc (.cells (madeCells z.cells (N * (tinfo tt e).size)) e)) ?_ (Nx.put hp hd (by rw [h.len]; exact .own last_obj rfl) hK)
  simp only [execOp, ho, hl, hc, Sem.run_bind, hrun, Result.andThen_ok, Sem.run_pure]

theorem own_lst {A' : Nat → Prop} {x : Value} {e : TypeId} {sz : Nat} {es : List (List DV)} (h : ObjOk A os H w x (.row e sz es)) (hA : ∀ b, A' b → A b) (hx : ∀ b, blk x = some b → ¬ A' b) : Imm A' w x (.lst sz es false) := by
  obtain ⟨xs, hown, hsz, hr⟩ := obj_row h
  rcases own_cells hown with ⟨rfl, rfl, _⟩ | ⟨g, c, rfl, hle, hm, hB, hg, hc⟩
  · exact .nil
  · have hr' := hr.keep (A' := A') (w' := w) (Keeps.less hA)
    refine .lst (fun k j => xs.getD (k * sz + j) .nilFunc) rfl hle hm (by simp) hr.rows (fun _ => hx g rfl) (fun _ => hg) (fun k j => ?_) (fun k j r d h1 h2 => ?_) (fun k j r d h1 h2 => ?_)
    · cases hq : xs[k * sz + j]? with
      | none => simp [List.getD, hq]; rfl
      | some v => simp [List.getD, hq]; exact hr.one v (List.mem_of_getElem? hq)
    · obtain ⟨v, hv, _⟩ := hr.rep k j r d h1 h2
      rw [hc _ v hv]
      simp [List.getD, hv]
    · obtain ⟨v, hv, hi⟩ := hr'.rep k j r d h1 h2
      simp only [List.getD, hv]
      exact hi
theorem Rep.shut {i : Nat} {x : Value} {e : TypeId} {sz : Nat} {es : List (List DV)} (h : Rep A0 w0 n os s a w) (hi : os[i]? = some (x, .row e sz es)) :
    Rep A0 w0 n ((os.map fun p => (p.1, mapO (sub0 i (.lst sz es false)) p.2)).set i (x, .dead)) (s.shut i sz es) a w ∧
    ∀ b, avoid A0 ((os.map fun p => (p.1, mapO (sub0 i (.lst sz es false)) p.2)).set i (x, .dead)) b → avoid A0 os b ∧ blk x ≠ some b := by
  have hav : ∀ b, avoid A0 ((os.map fun p => (p.1, mapO (sub0 i (.lst sz es false)) p.2)).set i (x, .dead)) b → avoid A0 os b ∧ blk x ≠ some b := by
    intro b hb
    rcases hb with hb | ⟨j, z, o', hj, hdd, hbb⟩
    · refine ⟨.inl hb, fun e' => ?_⟩
      exact h.a0 b hb ((h.obj i _ _ hi).blk_ge (by simp) e').1
    · by_cases e' : j = i
      · subst e'
        rw [List.getElem?_set_self (by simpa using (List.getElem?_eq_some_iff.1 hi).1)] at hj
        cases hj
        exact absurd rfl hdd
      · rw [List.getElem?_set_ne (fun e2 => e' e2.symm), List.getElem?_map] at hj
        cases hj1 : os[j]? with
        | none => rw [hj1] at hj; cases hj
        | some p =>
          rw [hj1] at hj
          cases hj
          have hd2 : p.2 ≠ .dead := fun e2 => hdd (by rw [e2]; rfl)
          exact ⟨.inr ⟨j, _, _, hj1, hd2, hbb⟩, fun e2 => e' (h.inj j i _ _ _ _ b hj1 hi hd2 (by simp) hbb e2)⟩
  refine ⟨h.sub (w' := w) (x' := x) (ob' := .dead) (r := .lst sz es false) hi (grownBy.refl' _ _) (fun b hd => absurd rfl hd) (fun _ _ => trivial) (fun os' hos => ?_), hav⟩
  subst hos
  exact .imm (own_lst (h.obj i _ _ hi) (fun b hb => (hav b hb).1) (fun b hb h2 => (hav b h2).2 hb))
theorem Rep.remap {os' : Objs} {s' : DS} (h : Rep A0 w0 n os s a w) (φ φT : DV → DV)
    (hmap : ∀ {z : Value} {d : DV}, RepV (avoid A0 os) os w z d → (z.oneCell' = true → RepV (avoid A0 os') os' w z (φ d)) ∧ RepV (avoid A0 os') os' w z (φT d))
    (k : Keeps (avoid A0 os) (avoid A0 os') w w) (hos : ∀ (i : Nat) z o', os'[i]? = some (z, o') → o' = .dead ∨ ∃ o1, os[i]? = some (z, o1) ∧ o' = mapO φ o1)
    (hloc : s'.loc = os'.map (·.2)) (henv : ∀ t, look s'.env t = φT (look s.env t)) : Rep A0 w0 n os' s' a w := by
  refine ⟨h.size, h.defers, h.gr, h.a0, hloc, fun t => by rw [henv]; exact (hmap (h.env t)).2, fun i z o' hi => ?_, fun i j x o y o' b hi hj d1 d2 b1 b2 => ?_⟩
  · rcases hos i z o' hi with rfl | ⟨o1, h1, rfl⟩
    · exact trivial
    · have ho1 := h.obj _ _ _ h1
      cases o1 with
      | dead => exact trivial
      | gone => exact ho1
      | gh ds =>
        obtain ⟨e1, e2, e3, e4⟩ := ho1
        refine ⟨e1, by simpa using e2, e3, fun i' v d hv hd => ?_⟩
        rw [List.getElem?_map] at hd
        cases hj : ds[i']? with
        | none => rw [hj] at hd; cases hd
        | some d' =>
          rw [hj] at hd
          simp at hd
          subst hd
          exact (hmap (e4 i' v d' hv hj)).1 (e3 v (List.mem_of_getElem? hv))
      | cells t cs =>
        obtain ⟨g, arr, rfl, hB, hh, hs, hone, hrr⟩ := ho1
        refine ⟨g, arr, rfl, hB, hh, by simpa using hs, hone, fun j' v d hv hd => ?_⟩
        rw [List.getElem?_map] at hd
        cases hj : cs[j']? with
        | none => rw [hj] at hd; cases hd
        | some d' =>
          rw [hj] at hd
          simp at hd
          subst hd
          refine (hmap (hrr j' v d' hv hj)).1 (hone v ?_)
          rw [← Array.getElem?_toList] at hv
          exact List.mem_of_getElem? hv
      | row e2 sz2 es2 =>
        obtain ⟨hmine, xs, hown, hsz, hrl, hone, hr⟩ := ho1
        exact ⟨hmine, xs, hown, hsz, hrl, hone, fun k' j' r d h1 h2 => by
          obtain ⟨v, hv, hi⟩ := hr k' j' r d h1 h2
          exact ⟨v, hv, hi.keep k⟩⟩
  · have hdd : ∀ o1 : LObj, mapO φ o1 ≠ .dead → o1 ≠ .dead := by intro o1; cases o1 <;> simp [mapO]
    rcases hos i x o hi with rfl | ⟨o1, h1, rfl⟩
    · exact absurd rfl d1
    · rcases hos j y o' hj with rfl | ⟨o2, h2, rfl⟩
      · exact absurd rfl d2
      · exact h.inj i j x o1 y o2 b h1 h2 (hdd _ d1) (hdd _ d2) b1 b2
theorem Rep.shutC {i : Nat} {x : Value} {t : TypeId} {cs : List DV} (h : Rep A0 w0 n os s a w) (hi : os[i]? = some (x, .cells t cs)) (hpl : plainAll cs = true) :
    Rep A0 w0 n ((os.map fun p => (p.1, mapO (subC0 i cs) p.2)).set i (x, .dead)) (s.shutC i cs) a w ∧
    ∀ b, avoid A0 ((os.map fun p => (p.1, mapO (subC0 i cs) p.2)).set i (x, .dead)) b → avoid A0 os b ∧ blk x ≠ some b := by
  have hlt := (List.getElem?_eq_some_iff.1 hi).1
  generalize hos : (os.map fun p => (p.1, mapO (subC0 i cs) p.2)).set i (x, .dead) = os'
  have hoi : os'[i]? = some (x, .dead) := by rw [← hos, List.getElem?_set_self (by simpa using hlt)]
  have hoth : ∀ {k : Nat}, k ≠ i → os'[k]? = (os[k]?).map fun p => (p.1, mapO (subC0 i cs) p.2) := by
    intro k h1
    rw [← hos, List.getElem?_set_ne (fun e => h1 e.symm), List.getElem?_map]
  have hget : ∀ (k : Nat) (z : Value) (o' : LObj), os'[k]? = some (z, o') → (k = i ∧ z = x ∧ o' = .dead) ∨ (k ≠ i ∧ ∃ o1, os[k]? = some (z, o1) ∧ o' = mapO (subC0 i cs) o1) := by
    intro k z o' hk
    by_cases e1 : k = i
    · subst e1; rw [hoi] at hk; cases hk; exact .inl ⟨rfl, rfl, rfl⟩
    · rw [hoth e1] at hk
      cases hk1 : os[k]? with
      | none => rw [hk1] at hk; cases hk
      | some p => rw [hk1] at hk; cases hk; exact .inr ⟨e1, _, rfl, rfl⟩
  have hdd : ∀ o1 : LObj, mapO (subC0 i cs) o1 ≠ .dead → o1 ≠ .dead := by intro o1; cases o1 <;> simp [mapO]
  have hav : ∀ b, avoid A0 os' b → avoid A0 os b ∧ blk x ≠ some b := by
    intro b hb
    rcases hb with hb | ⟨j, z, o', hj, hd, hbb⟩
    · exact ⟨.inl hb, fun e' => h.a0 b hb ((h.obj i _ _ hi).blk_ge (by simp) e').1⟩
    · rcases hget j z o' hj with ⟨rfl, rfl, rfl⟩ | ⟨hne, o1, hj1, rfl⟩
      · exact absurd rfl hd
      · exact ⟨.inr ⟨j, _, _, hj1, hdd _ hd, hbb⟩, fun e2 => hne (h.inj j i _ _ _ _ b hj1 hi (hdd _ hd) (by simp) hbb e2)⟩
  have kp : Keeps (avoid A0 os) (avoid A0 os') w w := Keeps.less (fun b hb => (hav b hb).1)
  have hpm := plainAll_mem hpl
  have bf : ∀ {p q : Nat}, p ≠ q → Nat.beq p q = false := by
    intro p q hne
    cases hb : Nat.beq p q
    · rfl
    · exact absurd (Nat.eq_of_beq_eq_true hb) hne
  have hip : ∀ (off g : Nat) (t2 : TypeId) (cs2 : List DV), os[i]? = some (.pointer (some ⟨g, 0, none⟩), .cells t2 cs2) → Imm (avoid A0 os') w (.pointer (some ⟨g, off, none⟩)) (.ip (cs.drop off)) := by
    intro off g t2 cs2 hk
    rw [hi] at hk
    cases hk
    obtain ⟨arr, hh, _, _, _, _, hcell⟩ := obj_cells h.obj hi
    refine ip_mk (fun hb => (hav g hb).2 rfl) (Array.getElem?_eq_some_iff.1 hh).1 (fun j d hd => ?_)
    rw [List.getElem?_drop] at hd
    obtain ⟨v, h1, h2, h3⟩ := hcell _ d hd
    exact ⟨v, by rw [Addr.add_mk]; exact h1, h2, ((h3.plain (hpm d (List.mem_of_getElem? hd))).2).keep kp⟩
  have hcap : ∀ {z : Value} {d : DV}, Imm (avoid A0 os) w z d → Imm (avoid A0 os') w z (subCc i cs d) := by
    intro z d hz
    cases d
    case lp => cases hz
    all_goals exact hz.keep kp
  have himm : ∀ {z : Value} {d : DV}, Imm (avoid A0 os) w z d → Imm (avoid A0 os') w z (subC0 i cs d) ∧ Imm (avoid A0 os') w z (subCT i cs d) := by
    intro z d hz
    induction hz with
    | v h => exact ⟨.v h, .v h⟩
    | lst xs hn hc hm hf hsz hA hb hone hcell hx ih => exact ⟨(Imm.lst xs hn hc hm hf hsz hA hb hone hcell hx).keep kp, (Imm.lst xs hn hc hm hf hsz hA hb hone hcell hx).keep kp⟩
    | nil => exact ⟨.nil, .nil⟩
    | nl => exact ⟨.nl, .nl⟩
    | agg hl hone h ih =>
      refine ⟨(Imm.agg hl hone h).keep kp, .agg (by simpa using hl) hone (fun j v d hv hd => ?_)⟩
      rw [List.getElem?_map] at hd
      rename_i ds
      cases hj : ds[j]? with
      | none => rw [hj] at hd; cases hd
      | some e => rw [hj] at hd; simp at hd; subst hd; exact (ih j v e hv hj).1
    | @tup vs ds hl h _ =>
      refine ⟨(Imm.tup hl h).keep kp, ?_⟩
      show Imm _ w _ (tupJ ds)
      unfold tupJ
      split
      · exact (Imm.tup hl h).keep kp
      · exact .junk
    | ip xs hA hb hone hcell hx _ => exact ⟨(Imm.ip xs hA hb hone hcell hx).keep kp, (Imm.ip xs hA hb hone hcell hx).keep kp⟩
    | @fn f vs ds hl h _ =>
      have key : Imm (avoid A0 os') w (.func f #[] vs.toArray) (.fn f (ds.map (subCc i cs))) := by
        refine .fn (by simpa using hl) (fun j v d hv hd => ?_)
        rw [List.getElem?_map] at hd
        cases hj : ds[j]? with
        | none => rw [hj] at hd; cases hd
        | some e => rw [hj] at hd; simp at hd; subst hd; exact hcap (h j v e hv hj)
      exact ⟨key, key⟩
    | wh _ h0 ih => exact ⟨.wh (fun hb => (ih hb).1) h0, .wh (fun hb => (ih hb).2) h0⟩
    | junk => exact ⟨.junk, .junk⟩
  have hmap : ∀ {z : Value} {d : DV}, RepV (avoid A0 os) os w z d → (z.oneCell' = true → RepV (avoid A0 os') os' w z (subC0 i cs d)) ∧ RepV (avoid A0 os') os' w z (subCT i cs d) := by
    intro z d hz
    induction hz with
    | imm h => exact ⟨fun _ => .imm (himm h).1, .imm (himm h).2⟩
    | @lp k off g t2 cs2 hk =>
      have key : RepV (avoid A0 os') os' w (.pointer (some ⟨g, off, none⟩)) (subC0 i cs (.lp k off)) := by
        by_cases hne : k = i
        · subst hne
          simp only [subC0, Nat.beq_refl]
          exact .imm (hip off g t2 cs2 hk)
        · simp only [subC0, bf (fun e => hne e.symm)]
          exact .lp (t := t2) (cs := cs2.map (subC0 i cs)) (by rw [hoth hne, hk]; rfl)
      exact ⟨fun _ => key, key⟩
    | @ap k off g t2 cs2 hk =>
      have key : RepV (avoid A0 os') os' w (.pointer (some ⟨g, off, none⟩)) (subC0 i cs (.ap k off)) := by
        by_cases hne : k = i
        · subst hne
          simp only [subC0, Nat.beq_refl]
          exact .imm (hip off g t2 cs2 hk)
        · simp only [subC0, bf (fun e => hne e.symm)]
          exact .ap (t := t2) (cs := cs2.map (subC0 i cs)) (by rw [hoth hne, hk]; rfl)
      exact ⟨fun _ => key, key⟩
    | @rp k kk off g m c e2 sz2 es2 hk =>
      have hne : k ≠ i := fun e => by subst e; rw [hi] at hk; cases hk
      have key : RepV (avoid A0 os') os' w (.pointer (some ⟨g, kk * sz2 + off, none⟩)) (.rp k kk off) := .rp (e := e2) (sz := sz2) (es := es2) (n := m) (c := c) (by rw [hoth hne, hk]; rfl)
      exact ⟨fun _ => key, key⟩
    | @own k z e2 sz2 es2 hk h1 =>
      have hne : k ≠ i := fun e => by subst e; rw [hi] at hk; cases hk
      have key : RepV (avoid A0 os') os' w z (.own k) := .own (e := e2) (sz := sz2) (es := es2) (by rw [hoth hne, hk]; rfl) h1
      exact ⟨fun _ => key, key⟩
    | @stale k z y2 d hk hd h1 =>
      have hne : k ≠ i := fun e => by subst e; rw [hi] at hk; cases hk
      have hk' : os'[k]? = some (y2, .gone) := by rw [hoth hne, hk]; rfl
      rcases hd with rfl | ⟨kk, off, rfl⟩
      · exact ⟨fun _ => .stale hk' (.inl rfl) h1, .stale hk' (.inl rfl) h1⟩
      · exact ⟨fun _ => .stale hk' (.inr ⟨_, _, rfl⟩) h1, .stale hk' (.inr ⟨_, _, rfl⟩) h1⟩
    | @agg vs ds hl hone _ ih =>
      refine ⟨fun h => by simp [Value.oneCell'] at h, .agg (by simpa using hl) hone (fun k v d hv hd => ?_)⟩
      rw [List.getElem?_map] at hd
      cases hk : ds[k]? with
      | none => rw [hk] at hd; cases hd
      | some e => rw [hk] at hd; simp at hd; subst hd; exact (ih k v e hv hk).1 (hone v (List.mem_of_getElem? hv))
    | @tup vs ds hl hown hh ih =>
      exact ⟨fun h1 => by simp [Value.oneCell'] at h1, .imm (((RepV.tup hl hown hh).tupJ).keep kp)⟩
    | @fn f vs ds hl hcp hh ih =>
      have key : RepV (avoid A0 os') os' w (.func f #[] vs.toArray) (.fn f (ds.map (subCc i cs))) := by
        refine .fn (by simpa using hl) (fun d hd => ?_) (fun j v d hv hd => ?_)
        · obtain ⟨e, he, rfl⟩ := List.mem_map.1 hd
          have hc := hcp e he
          cases e <;> simp [isCap, plainCap] at hc
          case lp k o =>
            simp only [subCc]
            split <;> rfl
          all_goals first | rfl | skip
          rename_i g caps
          have : caps = [] := by cases caps <;> simp_all [plainCap]
          subst this
          rfl
        · rw [List.getElem?_map] at hd
          cases hj : ds[j]? with
          | none => rw [hj] at hd; cases hd
          | some e =>
            rw [hj] at hd
            simp at hd
            subst hd
            have hc := hcp e (List.mem_of_getElem? hj)
            have h2 := (ih j v e hv hj).2
            cases e <;> simp [isCap, plainCap] at hc
            all_goals first | exact h2 | skip
            rename_i g caps
            have : caps = [] := by cases caps <;> simp_all [plainCap]
            subst this
            exact h2
      exact ⟨fun _ => key, key⟩
    | wh _ h0 ih => exact ⟨fun h1 => .wh (fun hb => (ih hb).1 h1) h0, .wh (fun hb => (ih hb).2) h0⟩
  refine ⟨h.remap (subC0 i cs) (subCT i cs) hmap kp (fun k z o' hk => ?_) ?_ (fun t => ?_), hav⟩
  · rcases hget k z o' hk with ⟨_, _, rfl⟩ | ⟨_, o1, h1, h2⟩
    · exact .inl rfl
    · exact .inr ⟨o1, h1, h2⟩
  · rw [← hos]
    show lset (mapL (subC0 i cs) s.loc) i .dead = _
    rw [lset_eq, mapL_eq, h.loc, List.map_set, List.map_map, List.map_map]
    rfl
  · show look (mapE (subCT i cs) s.env) t = _
    rw [look_mapE _ (by rfl)]
def avoidX (A0 : Nat → Prop) (os : Objs) (J : List Nat) (b : Nat) : Prop := A0 b ∨ ∃ (i : Nat) (x : Value) (ob : LObj), os[i]? = some (x, ob) ∧ ob ≠ .dead ∧ i ∉ J ∧ blk x = some b
def hIx : DV → Option Nat
  | .own j => some j
  | .lp j _ => some j
  | _ => none
def ownIx (ds : List DV) : List Nat := ds.filterMap hIx
theorem own_ix {ds : List DV} {d : DV} {j : Nat} (h : d ∈ ds) (hj : hIx d = some j) : j ∈ ownIx ds := List.mem_filterMap.2 ⟨d, h, hj⟩
theorem shutIn_ok : ∀ (ds : List DV) {os : Objs} {s : DS} {K : DS → Prop}, Rep A0 w0 n os s a w → shutIn ds s K → ∃ os' s', Rep A0 w0 n os' s' a w ∧ K s' ∧ (∀ b, avoid A0 os' b → avoidX A0 os (ownIx ds) b) ∧ ∀ (i : Nat) x o, i ∉ ownIx ds → os[i]? = some (x, o) → ∃ o', os'[i]? = some (x, o') ∧ kindIs o o'
  | [], os, s, K, h, hK => ⟨os, s, h, hK, fun b hb => by
      rcases hb with hb | ⟨i, x, o', hi, hd, hbb⟩
      · exact .inl hb
      · exact .inr ⟨i, x, o', hi, hd, by simp [ownIx], hbb⟩, fun i x o _ hi => ⟨o, hi, by cases o <;> simp [kindIs]⟩⟩
  | d :: r, os, s, K, h, hK => by
    have live : ∀ {j : Nat}, (∀ e sz es, lget s.loc j ≠ .row e sz es) → (∀ t cs, lget s.loc j ≠ .cells t cs) → hIx d = some j → shutIn r s K → ∃ os' s', Rep A0 w0 n os' s' a w ∧ K s' ∧ (∀ b, avoid A0 os' b → avoidX A0 os (ownIx (d :: r)) b) ∧ ∀ (i : Nat) x o, i ∉ ownIx (d :: r) → os[i]? = some (x, o) → ∃ o', os'[i]? = some (x, o') ∧ kindIs o o' := by
      intro j hl1 hl2 hx hK
      obtain ⟨os', s', hr, hk, hx', hkp⟩ := shutIn_ok r h hK
      refine ⟨os', s', hr, hk, fun b hb => ?_, fun i y ob hi ho => hkp i y ob (fun hm => hi (by simp [ownIx, hx]; exact .inr (by simpa [ownIx] using hm))) ho⟩
      rcases hx' b hb with hb | ⟨i, y, o', hi', hdd, hn, hbb⟩
      · exact .inl hb
      · refine .inr ⟨i, y, o', hi', hdd, ?_, hbb⟩
        have e1 : ownIx (d :: r) = j :: ownIx r := by simp [ownIx, hx]
        rw [e1]
        simp only [List.mem_cons, not_or]
        refine ⟨fun e => ?_, hn⟩
        subst e
        have hll : lget s.loc i = o' := by rw [h.loc, lget_eq, List.getElem?_map, hi']; rfl
        cases o' with
        | row e sz es => exact hl1 _ _ _ hll
        | cells t cs => exact hl2 _ _ hll
        | dead => exact hdd rfl
        | gone => have h9 : blk y = none := h.obj _ _ _ hi'; rw [h9] at hbb; cases hbb
        | gh ds => obtain ⟨rfl, _⟩ := h.obj _ _ _ hi'; simp [blk] at hbb
    have step : ∀ {j : Nat} {x : Value} {ob : LObj} {φ : DV → DV} {s1 : DS}, os[j]? = some (x, ob) → hIx d = some j → Rep A0 w0 n ((os.map fun p => (p.1, mapO φ p.2)).set j (x, .dead)) s1 a w → shutIn r s1 K →
        ∃ os' s', Rep A0 w0 n os' s' a w ∧ K s' ∧ (∀ b, avoid A0 os' b → avoidX A0 os (ownIx (d :: r)) b) ∧ ∀ (i : Nat) x o, i ∉ ownIx (d :: r) → os[i]? = some (x, o) → ∃ o', os'[i]? = some (x, o') ∧ kindIs o o' := by
      intro j x ob φ s1 hi hx h' hK
      obtain ⟨os', s', hr, hk, hx', hkp⟩ := shutIn_ok r h' hK
      refine ⟨os', s', hr, hk, fun b hb => ?_, fun i y ob1 hi2 ho => ?_⟩
      rotate_left
      · have hij : i ≠ j := fun e => hi2 (by subst e; exact own_ix List.mem_cons_self hx)
        obtain ⟨o', h1, h2⟩ := hkp i y (mapO φ ob1) (fun hm => hi2 (by simp [ownIx, hx]; exact .inr (by simpa [ownIx] using hm))) (by rw [List.getElem?_set_ne (fun e2 => hij e2.symm), List.getElem?_map, ho]; rfl)
        exact ⟨o', h1, by cases ob1 <;> cases o' <;> simp [kindIs, mapO] at h2 ⊢ <;> exact h2⟩
      rcases hx' b hb with hb | ⟨i, y, o', hi', hdd, hn, hbb⟩
      · exact .inl hb
      · have hij : i ≠ j := by
          intro e
          subst e
          rw [List.getElem?_set_self (by simpa using (List.getElem?_eq_some_iff.1 hi).1)] at hi'
          cases hi'
          exact hdd rfl
        rw [List.getElem?_set_ne (fun e2 => hij e2.symm), List.getElem?_map] at hi'
        cases hj1 : os[i]? with
        | none => rw [hj1] at hi'; cases hi'
        | some p =>
          rw [hj1] at hi'
          cases hi'
          refine .inr ⟨i, _, _, hj1, fun e2 => hdd (by rw [e2]; rfl), ?_, hbb⟩
          have e1 : ownIx (d :: r) = j :: ownIx r := by simp [ownIx, hx]
          rw [e1]
          simp only [List.mem_cons, not_or]
          exact ⟨hij, hn⟩
    by_cases hd : ∃ j, d = .own j
    · obtain ⟨j, rfl⟩ := hd
      unfold shutIn at hK
      split at hK
      · rename_i e sz es hl
        rw [h.loc] at hl
        obtain ⟨x, hi⟩ := lget_os hl (by simp)
        exact step hi rfl (h.shut hi).1 hK
      · exact hK.elim
      · rename_i hl1 hl2
        exact live (fun _ _ _ e => hl1 _ _ _ e) (fun _ _ e => hl2 _ _ e) rfl hK
    · by_cases hd2 : ∃ j o, d = .lp j o
      · obtain ⟨j, off, rfl⟩ := hd2
        unfold shutIn at hK
        split at hK
        · rename_i t cs hl
          split at hK
          · rename_i hpl
            rw [h.loc] at hl
            obtain ⟨x, hi⟩ := lget_os hl (by simp)
            exact step hi rfl (h.shutC hi hpl).1 hK
          · exact hK.elim
        · exact hK.elim
        · rename_i hl1 hl2
          exact live (fun _ _ _ e => hl2 _ _ _ e) (fun _ _ e => hl1 _ _ e) rfl hK
      · have h1 : shutIn (d :: r) s K = shutIn r s K := by cases d <;> first | rfl | exact absurd ⟨_, rfl⟩ hd | exact absurd ⟨_, _, rfl⟩ hd2
        have h2 : ownIx (d :: r) = ownIx r := by cases d <;> first | rfl | exact absurd ⟨_, rfl⟩ hd | exact absurd ⟨_, _, rfl⟩ hd2
        rw [h1] at hK
        rw [h2]
        exact shutIn_ok r h hK

theorem avoidX_sub {J : List Nat} {b : Nat} (h : avoidX A0 os J b) : avoid A0 os b := by
  rcases h with h | ⟨i, x, o', hi, hd, _, hb⟩
  · exact .inl h
  · exact .inr ⟨i, x, o', hi, hd, hb⟩
theorem lendP_ok {J : List Nat} {x : Value} {j off : Nat} {t : TypeId} {cs : List DV} (h : Rep A0 w0 n os s a w) (hr : RepV (avoid A0 os) os w x (.lp j off)) (hJ : j ∈ J) (hl : lget s.loc j = .cells t cs) (hpl : plainAll cs = true) : Imm (avoidX A0 os J) w x (.ip (cs.drop off)) := by
  rw [h.loc] at hl
  obtain ⟨x', hi⟩ := lget_os hl (by simp)
  obtain ⟨g, t', cs', hi', rfl⟩ := hr.lp_inv
  rw [hi] at hi'
  cases hi'
  obtain ⟨arr, hh, _, _, _, _, hcell⟩ := obj_cells h.obj hi
  refine ip_mk (fun hv => ?_) (Array.getElem?_eq_some_iff.1 hh).1 (fun q d hd => ?_)
  · rcases hv with hv | ⟨i, y, o', hi', hd, hn, hbb⟩
    · exact h.a0 g hv ((h.obj _ _ _ hi).blk_ge (by simp) rfl).1
    · exact hn (by rw [h.inj i j _ _ _ _ g hi' hi hd (by simp) hbb rfl]; exact hJ)
  · rw [List.getElem?_drop] at hd
    obtain ⟨v, h1, h2, h3⟩ := hcell _ d hd
    exact ⟨v, by rw [Addr.add_mk]; exact h1, h2, ((h3.plain (plainAll_mem hpl d (List.mem_of_getElem? hd))).2).keep (Keeps.less (fun _ => avoidX_sub))⟩
theorem lendC_ok {J : List Nat} {x : Value} {d : DV} {Q : DV → Prop} (h : Rep A0 w0 n os s a w) (hr : RepV (avoid A0 os) os w x d) (hc : isCap d = true ∨ Imm (avoid A0 os) w x d) (hJ : ∀ j o, d = .lp j o → j ∈ J) (hl : lendC s.loc d Q) : ∃ d', Q d' ∧ Imm (avoidX A0 os J) w x d' := by
  have imm : ∀ {d : DV}, Imm (avoid A0 os) w x d → Imm (avoidX A0 os J) w x d := fun hi => hi.keep (Keeps.less (fun _ => avoidX_sub))
  by_cases hd : ∃ j o, d = .lp j o
  · obtain ⟨j, off, rfl⟩ := hd
    unfold lendC at hl
    split at hl
    · rename_i j' o' e
      cases e
      split at hl
      · rename_i t cs hlg
        split at hl
        · rename_i hpl
          exact ⟨_, hl, lendP_ok h hr (hJ _ _ rfl) hlg hpl⟩
        · exact hl.elim
      · exact hl.elim
    · rename_i hne
      exact absurd rfl (hne _ _)
  · have h1 : lendC s.loc d Q = Q d := by cases d <;> first | rfl | exact absurd ⟨_, _, rfl⟩ hd
    rw [h1] at hl
    refine ⟨d, hl, imm ?_⟩
    rcases hc with hc | hc
    · by_cases hip : ∃ cs, d = .ip cs
      · obtain ⟨cs, rfl⟩ := hip
        exact hr.ip_inv
      · refine (hr.plain ?_).2
        cases d
        case lp => exact absurd ⟨_, _, rfl⟩ hd
        case ip => exact absurd ⟨_, rfl⟩ hip
        case fn f caps =>
          have : caps = [] := by cases caps <;> simp_all [isCap, plainCap]
          subst this
          rfl
        all_goals first | rfl | (simp [isCap, plainCap] at hc)
    · exact hc
theorem lendCs_ok {J : List Nat} (h : Rep A0 w0 n os s a w) : ∀ (vs : List Value) (ds : List DV) {Q : List DV → Prop}, vs.length = ds.length → (∀ (i : Nat) v d, vs[i]? = some v → ds[i]? = some d → RepV (avoid A0 os) os w v d ∧ (isCap d = true ∨ Imm (avoid A0 os) w v d)) → (∀ j o, .lp j o ∈ ds → j ∈ J) → lendCs s.loc ds Q →
    ∃ ds', Q ds' ∧ vs.length = ds'.length ∧ ∀ (i : Nat) v d, vs[i]? = some v → ds'[i]? = some d → Imm (avoidX A0 os J) w v d
  | [], [], Q, _, _, _, hl => ⟨[], hl, rfl, by simp⟩
  | [], _ :: _, Q, h1, _, _, _ => by simp at h1
  | _ :: _, [], Q, h1, _, _, _ => by simp at h1
  | v :: vs, d :: ds, Q, h1, hr, hJ, hl => by
    obtain ⟨d', hl, hi⟩ := lendC_ok h (hr 0 v d rfl rfl).1 (hr 0 v d rfl rfl).2 (fun j o e => hJ j o (by simp [e])) hl
    obtain ⟨ds', hq, hlen, hp⟩ := lendCs_ok h vs ds (by simpa using h1) (fun i v d hv hd => hr (i + 1) v d (by simpa using hv) (by simpa using hd)) (fun j o hj => hJ j o (by simp [hj])) hl
    refine ⟨d' :: ds', hq, by simp [hlen], fun i v' e hv he => ?_⟩
    cases i with
    | zero => simp at hv he; subst hv he; exact hi
    | succ i => exact hp i v' e (by simpa using hv) (by simpa using he)
theorem lend0_ok {J : List Nat} {x : Value} {d : DV} {Q : DV → Prop} (h : Rep A0 w0 n os s a w) (hr : RepV (avoid A0 os) os w x d) (hJ : ∀ e j, e ∈ own0 d → hIx e = some j → j ∈ J) (hl : lend0 s.loc d Q) : ∃ d', Q d' ∧ Imm (avoidX A0 os J) w x d' := by
  have imm : ∀ {d : DV}, Imm (avoid A0 os) w x d → Imm (avoidX A0 os J) w x d := fun hi => hi.keep (Keeps.less (fun _ => avoidX_sub))
  cases d with
  | own j =>
    simp only [lend0] at hl
    split at hl
    · rename_i e sz es hlg
      rw [h.loc] at hlg
      obtain ⟨x', hi⟩ := lget_os hlg (by simp)
      have hxe := hr.own_row hi
      subst hxe
      refine ⟨_, hl, own_lst (h.obj _ _ _ hi) (fun _ => avoidX_sub) (fun b hb hv => ?_)⟩
      rcases hv with hv | ⟨i, y, o', hi', hd, hn, hbb⟩
      · exact h.a0 b hv ((h.obj _ _ _ hi).blk_ge (by simp) hb).1
      · exact hn (by rw [h.inj i j _ _ _ _ b hi' hi hd (by simp) hbb hb]; exact hJ (.own j) j (by simp [own0]) rfl)
    · exact hl.elim
  | lp j off =>
    simp only [lend0] at hl
    split at hl
    · rename_i t cs hlg
      split at hl
      · rename_i hpl
        exact ⟨_, hl, lendP_ok h hr (hJ (.lp j off) j (by simp [own0]) rfl) hlg hpl⟩
      · exact hl.elim
    · exact hl.elim
  | ap => exact hl.elim
  | rp => exact hl.elim
  | wh => exact hl.elim
  | agg => exact hl.elim
  | v y => obtain ⟨rfl, h1⟩ := hr.v_inv; exact ⟨_, hl, .v h1⟩
  | lst => exact ⟨_, hl, imm hr.lst_inv⟩
  | tup => exact hl.elim
  | ip => exact ⟨_, hl, imm hr.ip_inv⟩
  | fn f caps =>
    have hl : lendCs s.loc caps fun l => Q (.fn f l) := hl
    have hcaps : ∃ vs : List Value, x = .func f #[] vs.toArray ∧ vs.length = caps.length ∧ ∀ (i : Nat) v d, vs[i]? = some v → caps[i]? = some d → RepV (avoid A0 os) os w v d ∧ (isCap d = true ∨ Imm (avoid A0 os) w v d) := by
      cases hr with
      | imm h => cases h with
        | fn hl hp => exact ⟨_, rfl, hl, fun i v d hv hd => ⟨.imm (hp i v d hv hd), .inr (hp i v d hv hd)⟩⟩
      | fn hl hcap hp => exact ⟨_, rfl, hl, fun i v d hv hd => ⟨hp i v d hv hd, .inl (hcap d (List.mem_of_getElem? hd))⟩⟩
      | stale h hd h1 => rcases hd with hd | ⟨_, _, hd⟩ <;> cases hd
    obtain ⟨vs, rfl, hlen, hp⟩ := hcaps
    obtain ⟨ds', hq, hl2, hp2⟩ := lendCs_ok h vs caps hlen hp (fun j o hj => hJ (.lp j o) j (by simp only [own0, List.mem_filter]; exact ⟨hj, rfl⟩) rfl) hl
    exact ⟨_, hq, .fn hl2 hp2⟩
  | nl => rw [hr.nl_inv]; exact ⟨_, hl, .nl⟩
  | junk => exact ⟨_, hl, .junk⟩
theorem lendL_ok {J : List Nat} (h : Rep A0 w0 n os s a w) : ∀ (vs : List Value) (ds : List DV) {Q : List DV → Prop}, vs.length = ds.length → (∀ (i : Nat) v d, vs[i]? = some v → ds[i]? = some d → RepV (avoid A0 os) os w v d) → (∀ e j, e ∈ ds.flatMap own0 → hIx e = some j → j ∈ J) → lendL s.loc ds Q →
    ∃ ds', Q ds' ∧ vs.length = ds'.length ∧ ∀ (i : Nat) v d, vs[i]? = some v → ds'[i]? = some d → Imm (avoidX A0 os J) w v d
  | [], [], Q, _, _, _, hl => ⟨[], hl, rfl, by simp⟩
  | [], _ :: _, Q, h1, _, _, _ => by simp at h1
  | _ :: _, [], Q, h1, _, _, _ => by simp at h1
  | v :: vs, d :: ds, Q, h1, hr, hJ, hl => by
    obtain ⟨d', hl, hi⟩ := lend0_ok h (hr 0 v d rfl rfl) (fun e j he hj => hJ e j (by simp [List.flatMap_cons, he]) hj) hl
    obtain ⟨ds', hq, hlen, hp⟩ := lendL_ok h vs ds (by simpa using h1) (fun i v d hv hd => hr (i + 1) v d (by simpa using hv) (by simpa using hd)) (fun e j he hj => hJ e j (by rw [List.flatMap_cons]; exact List.mem_append.2 (.inr he)) hj) hl
    refine ⟨d' :: ds', hq, by simp [hlen], fun i v' e hv he => ?_⟩
    cases i with
    | zero => simp at hv he; subst hv he; exact hi
    | succ i => exact hp i v' e (by simpa using hv) (by simpa using he)
theorem lend_ok {J : List Nat} {x : Value} {d : DV} {Q : DV → Prop} (h : Rep A0 w0 n os s a w) (hr : RepV (avoid A0 os) os w x d) (hJ : ∀ e j, e ∈ owns [d] → hIx e = some j → j ∈ J) (hl : lend s.loc d Q) : ∃ d', Q d' ∧ Imm (avoidX A0 os J) w x d' := by
  by_cases hd : ∃ cs, d = .agg cs
  · obtain ⟨cs, rfl⟩ := hd
    obtain ⟨vs, rfl, hlen, hone, hp⟩ := hr.agg_inv
    obtain ⟨ds', hq, hl2, hp2⟩ := lendL_ok h vs cs hlen hp (fun e j he hj => hJ e j (by
      simp only [owns, List.append_nil]
      exact he) hj) hl
    exact ⟨_, hq, .agg hl2 hone hp2⟩
  by_cases ht : ∃ ds, d = .tup ds
  · obtain ⟨ds, rfl⟩ := ht
    have hl : match ds.any isOwn with
      | false => Q (.tup ds)
      | true => False := hl
    cases hn : ds.any isOwn with
    | false =>
      rw [hn] at hl
      exact ⟨_, hl, (hr.tup_imm hn).keep (Keeps.less (fun _ => avoidX_sub))⟩
    | true =>
      rw [hn] at hl
      exact hl.elim
  · have h1 : lend s.loc d Q = lend0 s.loc d Q := by cases d <;> first | rfl | exact absurd ⟨_, rfl⟩ hd | exact absurd ⟨_, rfl⟩ ht
    rw [h1] at hl
    have h2 : owns [d] = own0 d := by cases d <;> first | exact absurd ⟨_, rfl⟩ hd | simp [owns]
    exact lend0_ok h hr (fun e j he hj => hJ e j (by rw [h2]; exact he) hj) hl
theorem owns_cons (d : DV) (r : List DV) : owns (d :: r) = owns [d] ++ owns r := by
  cases d <;> simp [owns]
theorem lendA_ok {J : List Nat} (h : Rep A0 w0 n os s a w) : ∀ (vs : List Value) (ds : List DV) {Q : List DV → Prop}, vs.length = ds.length → (∀ (i : Nat) v d, vs[i]? = some v → ds[i]? = some d → RepV (avoid A0 os) os w v d) → (∀ e j, e ∈ owns ds → hIx e = some j → j ∈ J) → lendA s.loc ds Q →
    ∃ ds', Q ds' ∧ ImmAll (avoidX A0 os J) w vs ds'
  | [], [], Q, _, _, _, hl => ⟨[], hl, trivial⟩
  | [], _ :: _, Q, h1, _, _, _ => by simp at h1
  | _ :: _, [], Q, h1, _, _, _ => by simp at h1
  | v :: vs, d :: ds, Q, h1, hr, hJ, hl => by
    obtain ⟨d', hl, hi⟩ := lend_ok h (hr 0 v d rfl rfl) (fun e j he hj => hJ e j (by rw [owns_cons]; exact List.mem_append.2 (.inl he)) hj) hl
    obtain ⟨ds', hq, hp⟩ := lendA_ok h vs ds (by simpa using h1) (fun i v d hv hd => hr (i + 1) v d (by simpa using hv) (by simpa using hd)) (fun e j he hj => hJ e j (by rw [owns_cons]; exact List.mem_append.2 (.inr he)) hj) hl
    exact ⟨d' :: ds', hq, hi, hp⟩
theorem Imm.le {x : Value} {d d' : DV} (hd : dle d d') (h : Imm A w x d) : Imm A w x d' := by
  induction hd generalizing x with
  | refl => exact h
  | @nil sz sz' f f' hf =>
    cases h with
    | lst xs hn hc hm hff hsz hA hb hone hcell hx => exact .lst xs hn hc hm (fun e => hff (hf e)) (by simp) (fun h => absurd rfl h) (fun h => absurd rfl h) hone (by simp) (by simp)
    | nil => exact .nil
  | nl => cases h; exact .nil
  | lst =>
    cases h with
    | lst xs hn hc hm hff hsz hA hb hone hcell hx => exact .lst xs hn hc hm (by simp) hsz hA hb hone hcell hx
    | nil => exact .nil
  | @rows sz es es' f hl hr hh ih =>
    cases h with
    | lst xs hn hc hm hff hsz hA hb hone hcell hx =>
      have get : ∀ {i : Nat} {r' : List DV}, es'[i]? = some r' → ∃ r, es[i]? = some r ∧ r.length = r'.length := fun {i r'} h => by
        have hi := (List.getElem?_eq_some_iff.1 h).1
        exact ⟨es[i]'(by omega), List.getElem?_eq_getElem (by omega), hr i _ _ (List.getElem?_eq_getElem (by omega)) h⟩
      have ne : es' ≠ [] → es ≠ [] := fun h e => by subst e; simp at hl; exact h (List.length_eq_zero_iff.1 hl.symm)
      refine .lst xs (by omega) hc hm hff (fun e he => ?_) (fun h => hA (ne h)) (fun h => hb (ne h)) hone (fun i j e d he hd => ?_) (fun i j e d he hd => ?_)
      · obtain ⟨i, hi, rfl⟩ := List.getElem_of_mem he
        obtain ⟨r, h1, h2⟩ := get (List.getElem?_eq_getElem hi)
        rw [← h2]
        exact hsz r (List.mem_of_getElem? h1)
      · obtain ⟨r, h1, h2⟩ := get he
        have hj := (List.getElem?_eq_some_iff.1 hd).1
        exact hcell i j r _ h1 (List.getElem?_eq_getElem (by omega))
      · obtain ⟨r, h1, h2⟩ := get he
        have hj := (List.getElem?_eq_some_iff.1 hd).1
        have hc := List.getElem?_eq_getElem (l := r) (i := j) (by omega)
        exact ih i j r e _ d h1 he hc hd (hx i j r _ h1 hc)
    | nil =>
      have : es' = [] := List.length_eq_zero_iff.1 (by simpa using hl.symm)
      subst this
      exact .nil
  | @agg cs ds hl hh ih =>
    cases h with
    | agg hl' hone hp =>
      refine .agg (hl'.trans hl) hone (fun i v d hv hd => ?_)
      have hi : i < cs.length := by
        have := (List.getElem?_eq_some_iff.1 hd).1
        omega
      exact ih i cs[i] d (List.getElem?_eq_getElem hi) hd (hp i v _ hv (List.getElem?_eq_getElem hi))
  | @tup cs ds hl hh ih =>
    cases h with
    | tup hl' hp =>
      refine .tup (hl'.trans hl) (fun i v d hv hd => ?_)
      have hi : i < cs.length := by
        have := (List.getElem?_eq_some_iff.1 hd).1
        omega
      exact ih i cs[i] d (List.getElem?_eq_getElem hi) hd (hp i v _ hv (List.getElem?_eq_getElem hi))
  | junk => exact .junk
theorem ImmAll.le : ∀ {vs : List Value} {ds ds' : List DV}, DleAll ds ds' → ImmAll A w vs ds → ImmAll A w vs ds'
  | [], [], [], _, _ => trivial
  | [], [], _ :: _, h, _ => h.elim
  | [], _ :: _, _, _, h => h.elim
  | _ :: _, [], _, _, h => h.elim
  | v :: vs, d :: ds, [], h, _ => h.elim
  | v :: vs, d :: ds, e :: es, h, hi => ⟨hi.1.le h.1, ImmAll.le h.2 hi.2⟩
theorem scalar_imm {A' : Nat → Prop} {x : Value} {d : DV} (hs : scalar d = true) (h : Imm A w x d) : Imm A' w x d := by
  have one : ∀ {x : Value} {d : DV}, scalar0 d = true → Imm A w x d → Imm A' w x d := by
    intro x d hs h
    cases d <;> simp [scalar0] at hs
    cases h with
    | v h => exact .v h
  have agg : ∀ {x : Value} {cs : List DV}, cs.all scalar0 = true → Imm A w x (.agg cs) → Imm A' w x (.agg cs) := by
    intro x cs hs h
    cases h with
    | agg hl hone hp => exact .agg hl hone (fun i v d hv hd => one (List.all_eq_true.1 hs d (List.mem_of_getElem? hd)) (hp i v d hv hd))
  cases d <;> simp only [scalar, Bool.false_eq_true] at hs
  · cases h with
    | v h => exact .v h
  · exact agg hs h
  · cases h with
    | tup hl hp =>
      refine .tup hl (fun i v d hv hd => ?_)
      have := List.all_eq_true.1 hs d (List.mem_of_getElem? hd)
      have hi := hp i v d hv hd
      cases d <;> simp at this
      · cases hi with
        | v h => exact .v h
      · exact agg (by simpa using this) hi
end
end Go.Lift

namespace Go.Lift
open Go

section
variable {P : Program} {tt : TT} {A0 : Nat → Prop} {w0 : Home} {n : Nat} {os : Objs} {s : DS} {a : Act} {w : World} {o : Oper} {K : DS → Prop} {A : Nat → Prop} {B : Nat}

theorem shutOps_ok : ∀ (l : List Operand) {os : Objs} {s : DS} {K : DS → Prop}, Rep A0 w0 n os s a w → shutOps s l K → ∃ os' s', Rep A0 w0 n os' s' a w ∧ K s'
  | [], os, s, K, h, hK => ⟨os, s, h, hK⟩
  | x :: r, os, s, K, h, hK => by
    obtain ⟨os', s', h', hK, _, _⟩ := shutIn_ok _ h (frc_iff.1 hK)
    exact shutOps_ok r h' hK

theorem RowRep.set {cells cells' : List Value} {es : List (List DV)} {sz k off : Nat} {vs : List Value} {ed ds : List DV} (h : RowRep A w cells es sz) (hk : es[k]? = some ed) (hf : off + vs.length ≤ sz) (hvl : vs.length = ds.length) (hone : ∀ v ∈ vs, v.oneCell' = true)
    (hp : ∀ (i : Nat) v d, vs[i]? = some v → ds[i]? = some d → Imm A w v d) (hlen : cells'.length = cells.length) (hc : ∀ j, cells'[j]? = if k * sz + off ≤ j ∧ j < k * sz + off + vs.length then vs[j - (k * sz + off)]? else cells[j]?) :
    RowRep A w cells' (es.set k (dsplice ed off ds)) sz := by
  have hkl := (List.getElem?_eq_some_iff.1 hk).1
  have hel := h.rows _ (List.mem_of_getElem? hk)
  refine ⟨by rw [hlen, h.len]; simp, fun r hr => ?_, fun v hv => ?_, fun k' j r d hk' hj => ?_⟩
  · rcases List.mem_or_eq_of_mem_set hr with hr | rfl
    · exact h.rows r hr
    · rw [length_dsplice]; exact hel
  · obtain ⟨j, hj, rfl⟩ := List.getElem_of_mem hv
    have h1 := List.getElem?_eq_getElem hj
    rw [hc j] at h1
    split at h1
    · exact hone _ (List.mem_of_getElem? h1)
    · exact h.one _ (List.mem_of_getElem? h1)
  · by_cases e : k' = k
    · subst e
      rw [List.getElem?_set_self hkl] at hk'
      cases hk'
      have hjl := (List.getElem?_eq_some_iff.1 hj).1
      rw [length_dsplice] at hjl
      rw [get_dsplice _ _ _ _ (by omega)] at hj
      rw [hc]
      split at hj
      · rename_i c
        rw [if_pos (by omega)]
        have hjv : j - off < vs.length := by omega
        refine ⟨vs[j - off], ?_, hp _ _ d (List.getElem?_eq_getElem hjv) hj⟩
        rw [show k' * sz + j - (k' * sz + off) = j - off by omega]
        exact List.getElem?_eq_getElem hjv
      · rename_i c
        rw [if_neg (by omega)]
        exact h.rep k' j ed d hk hj
    · rw [List.getElem?_set_ne (fun e' => e e'.symm)] at hk'
      have hrl := h.rows _ (List.mem_of_getElem? hk')
      have hjl := (List.getElem?_eq_some_iff.1 hj).1
      rw [hc]
      rw [if_neg ?_]
      · exact h.rep k' j r d hk' hj
      · intro c
        rcases Nat.lt_or_gt_of_ne e with hlt | hlt
        · have h1 : (k' + 1) * sz ≤ k * sz := Nat.mul_le_mul_right _ (by omega)
          rw [Nat.add_mul] at h1
          omega
        · have h1 : (k + 1) * sz ≤ k' * sz := Nat.mul_le_mul_right _ (by omega)
          rw [Nat.add_mul] at h1
          omega
theorem elems_loop {ρ : Operand → DV} {size : Nat} {K : List (List DV) → Prop} (hpos : 0 < size) :
    ∀ (parts : List (Nat × Operand)) (es : List (List DV)) (cells : Array Value), RowRep A w cells.toList es size → (∀ p ∈ parts, RepV A os w (a.eval p.2) (ρ p.2)) → elemsK ρ size parts es K →
      ∃ cells' es', K es' ∧ Instr.fill (fun i => some (i * size, size)) cells (parts.map fun p => (p.1, a.eval p.2)) = some cells' ∧ RowRep A w cells'.toList es' size ∧ es'.length = es.length
  | [], es, cells, hr, _, h => ⟨cells, es, h, by simp [Instr.fill], hr, rfl⟩
  | (i, x) :: r, es, cells, hr, hx, h => by
    have hxx := hx (i, x) (by simp)
    have h := frc_iff.1 h
    split at h
    · rename_i hb
      simp only [Bool.and_eq_true] at hb
      obtain ⟨⟨b1, b2⟩, b3⟩ := hb
      have b1 := Nat.eq_of_beq_eq_true b1
      have b2 : i < es.length := Nat.le_of_ble_eq_true b2
      have hpl := plainAll_mem b3
      have hnw : ∀ b d', ρ x ≠ .wh b d' := by
        intro b d' e
        have := hpl (.wh b d') (by rw [e]; simp [dcells])
        simp [isPlain0] at this
      have hnt : ∀ l, ρ x ≠ .tup l := by
        intro l e
        have := hpl (.tup l) (by rw [e]; simp [dcells])
        simp [isPlain0] at this
      have hnj : ρ x ≠ .junk := by
        intro e
        have := hpl .junk (by rw [e]; simp [dcells])
        simp [isPlain0] at this
      obtain ⟨hl, hone, hp⟩ := RepV.cells hxx hnw hnt hnj
      have hsz : (a.eval x).cells.size = size := by rw [← b1, ← hl]; simp
      have hlc : cells.size = es.length * size := by rw [← hr.len]; simp
      have hin : (i + 1) * size ≤ es.length * size := Nat.mul_le_mul_right _ (by omega)
      rw [Nat.add_mul, Nat.one_mul] at hin
      have hed : es[i]? = some es[i] := List.getElem?_eq_getElem b2
      have hel := hr.rows _ (List.mem_of_getElem? hed)
      have hfold := fun j => (get_fold (a.eval x).cells.toList 0 (i * size) cells j (by rw [hlc, Array.length_toList, hsz]; omega)).1
      have hfs := (get_fold (a.eval x).cells.toList 0 (i * size) cells 0 (by rw [hlc, Array.length_toList, hsz]; omega)).2
      have hfeq : ((a.eval x).cells.zipIdx.foldl (fun (cs : Array Value) (p : Value × Nat) => cs.setIfInBounds (i * size + p.2) p.1) cells) = ((a.eval x).cells.toList.zipIdx 0).foldl (fun (cs : Array Value) (p : Value × Nat) => cs.setIfInBounds (i * size + p.2) p.1) cells := by
        rw [← Array.foldl_toList]
        simp
      have hspl : dsplice es[i] 0 (dcells (ρ x)) = dcells (ρ x) := by
        apply List.ext_getElem?
        intro j
        rw [get_dsplice _ _ _ _ (by rw [hel, b1]; omega)]
        split
        · simp
        · rename_i c
          rw [List.getElem?_eq_none (by rw [hel]; omega), List.getElem?_eq_none (by omega)]
      have hr' := hr.set (cells' := ((a.eval x).cells.zipIdx.foldl (fun (cs : Array Value) (p : Value × Nat) => cs.setIfInBounds (i * size + p.2) p.1) cells).toList) (off := 0) hed (by rw [Array.length_toList, hsz]; omega) hl hone
        (fun j v d hv hd => (RepV.plain (hp j v d hv hd) (hpl d (List.mem_of_getElem? hd))).2) (by rw [hfeq, Array.length_toList, Array.length_toList]; exact hfs) (fun j => by
          rw [hfeq, Array.getElem?_toList, hfold j]
          simp)
      rw [hspl] at hr'
      obtain ⟨cells', es', hK, hfill, hrep, hlen⟩ := elems_loop hpos r _ _ hr' (fun p hp => hx p (by simp [hp])) h
      refine ⟨cells', es', hK, ?_, hrep, by rw [hlen]; simp⟩
      simp only [List.map_cons, Instr.fill]
      rw [if_neg (by
        simp only [hsz, ne_eq, not_true_eq_false, decide_false, Bool.false_or, gt_iff_lt, decide_eq_true_eq, Bool.or_eq_true, or_false, false_or]
        omega)]
      exact hfill
    · exact h.elim

theorem buildSlice_ok (hT : tabOk P tt = true) {t e : TypeId} {m : Nat} {parts : Array (Nat × Operand)} {Q : Exit → Act → World → Prop} (ho : o.op = .buildSlice t m parts) (hk : (tinfo tt t).k = .slc e) (hs : (tinfo tt e).size ≠ 0) (hle : m * (tinfo tt e).size ≤ 16777216)
    (h : Rep A0 w0 n os s a w) (hd : ∀ t, o.dst = some t → t < n) (hK : elemsK (ev s) (tinfo tt e).size parts.toList (List.replicate m (tinfo tt e).zero) fun es => putK ⟨s.env, s.loc ++ [.row e (tinfo tt e).size es]⟩ o.dst (.own s.loc.length) K) : o.wp P a w (Nx A0 w0 n K) Q := by
  obtain ⟨i, hi, hsz, hby, z, hz, hzo, hzl⟩ := tab_size hT hs
  have hu := tab_slc hT hk
  obtain ⟨h1, h2, h3⟩ := zOk_all (A := avoid A0 os) (w := w) hzo
  have hcr : CellsRep (avoid A0 os) os w z.cells (tinfo tt e).zero := ⟨by simpa using h1, h2, fun i v d hv hd => .imm (h3 i v d (by simpa using hv) hd)⟩
  have hpos := Nat.pos_of_ne_zero hs
  have hrow := made_row (N := m) (m := m) hcr (fun i v d hv hd => h3 i v d (by simpa using hv) hd) (by omega) (Nat.le_refl _)
  rw [hzl] at hrow
  have hml : (madeCells z.cells (m * (tinfo tt e).size)).toList.length = m * (tinfo tt e).size := (Array.length_toList (xs := madeCells z.cells (m * (tinfo tt e).size))).trans (size_madeCells _ _)
  rw [List.take_of_length_le (by rw [hml]; exact Nat.le_refl _)] at hrow
  obtain ⟨cells', es', hK, hfill, hrep, hlen⟩ := elems_loop hpos parts.toList _ _ hrow (fun p _ => h.ev p.2) hK
  rw [List.length_replicate] at hlen
  have hcs : cells'.size = m * (tinfo tt e).size := by have := hrep.len; rw [hlen] at this; simpa using this
  have hm : m ≤ maxLen := by
    have h2 : m * 1 ≤ m * (tinfo tt e).size := Nat.mul_le_mul_left _ hpos
    simp only [maxLen]
    omega
  have hown := World.ownsRow_lit (base := 0) (e := e) (size := (tinfo tt e).size) w cells' m (Nat.zero_le _) hm hcs
  have hp := row_push (x := .slice (some ⟨w.heap.size, 0, none⟩) m m) (es := es') h (World.grownBy_alloc w (.cells cells' e) none) (fun b hb => by simp [blk] at hb; omega) (by rw [hlen]; exact hown) hpos hrep
  refine wp_value (x := .slice (some ⟨w.heap.size, 0, none⟩) m m) (w' := w.alloc (.cells cells' e)) ?_ (Nx.put hp hd (by rw [h.len]; exact .own last_obj rfl) hK)
  have hparts : (parts.map fun (i, x) => (i, a.eval x)).toList = parts.toList.map fun p => (p.1, a.eval p.2) := by cases parts; simp
  have hbig : ¬ (m * (tinfo tt e).size > 2 ^ 24) := by omega
  by_cases hz0 : m * (tinfo tt e).size = 0
  · have hfill0 : Instr.fill (fun i => some (i * (tinfo tt e).size, (tinfo tt e).size)) (madeCells #[] (m * (tinfo tt e).size)) (parts.toList.map fun p => (p.1, a.eval p.2)) = some cells' := by
      rw [← hfill]
      congr 1
      rw [hz0]
      simp [madeCells]
    simp only [execOp, ho, Instr.buildSlice, Sem.run_bind, run_underlying hu, Result.andThen_ok, run_sizeOf_tab hT hs, if_neg hbig, if_pos hz0, Sem.run_pure, hparts]
    simp only [madeCells] at hfill0
    simp only [hfill0, Sem.run_bind, newRow, run_newObj, Result.andThen_ok, Sem.run_pure, World.alloc_eq]
  · have hzr : (zeroValue e).run P w = .ok z w := by simp [zeroValue, typeInfo, hi, hz]
    simp only [madeCells] at hfill
    simp only [execOp, ho, Instr.buildSlice, Sem.run_bind, run_underlying hu, Result.andThen_ok, run_sizeOf_tab hT hs, if_neg hbig, if_neg hz0, hzr, Sem.run_pure, hparts]
    simp only [hfill, Sem.run_bind, newRow, run_newObj, Result.andThen_ok, Sem.run_pure, World.alloc_eq]

theorem alike_set {i : Nat} {x : Value} {ob ob' : LObj} (hi : os[i]? = some (x, ob)) (hk : kindIs ob ob') : Alike os (os.set i (x, ob')) := by
  intro j z o' hj
  by_cases e : j = i
  · subst e; rw [hi] at hj; cases hj
    exact ⟨_, List.getElem?_set_self (List.getElem?_eq_some_iff.1 hi).1, hk⟩
  · exact ⟨o', by rw [List.getElem?_set_ne (fun e' => e e'.symm)]; exact hj, by cases o' <;> simp [kindIs]⟩
theorem keeps_set {w' : World} {i : Nat} {x : Value} {ob ob' : LObj} (hi : os[i]? = some (x, ob)) (hd : ob ≠ .dead) (hg : w.grownBy w' (blk x)) : Keeps (avoid A0 os) (avoid A0 (os.set i (x, ob'))) w w' := by
  refine ⟨hg.size, fun b hb hv => ?_, fun b hb hn => hg.block b hb (fun e => hn (.inr ⟨i, _, _, hi, hd, e.symm⟩))⟩
  rcases hv with hv | ⟨j, z, o', hj, hdd, hbb⟩
  · exact .inl hv
  · by_cases e : j = i
    · subst e
      rw [List.getElem?_set_self (List.getElem?_eq_some_iff.1 hi).1] at hj
      cases hj
      exact .inr ⟨_, _, _, hi, hd, hbb⟩
    · rw [List.getElem?_set_ne (fun e' => e e'.symm)] at hj
      exact .inr ⟨j, z, o', hj, hdd, hbb⟩

theorem store_row_ok (hT : tabOk P tt = true) {t ty : TypeId} {x y : Operand} {i k off g m c sz : Nat} {es : List (List DV)} {ed : List DV} {d : DV} {Q : Exit → Act → World → Prop} (ho : o.op = .store t x y) (h : Rep A0 w0 n os s a w) (hd : ∀ t, o.dst = some t → t < n)
    (hs : (tinfo tt t).size ≠ 0) (hx : a.eval x = .pointer (some ⟨g, k * sz + off, none⟩)) (hi : os[i]? = some (.slice (some ⟨g, 0, none⟩) m c, .row ty sz es)) (e : ev s y = d) (hpl : plainAll (dcells d) = true) (hed : es[k]? = some ed)
    (hsz : (dcells d).length = (tinfo tt t).size) (hfit : off + (dcells d).length ≤ sz) (hK : putK ⟨s.env, lset s.loc i (.row ty sz (es.set k (dsplice ed off (dcells d))))⟩ o.dst (.wh false (.v (.bool false))) K) : o.wp P a w (Nx A0 w0 n K) Q := by
  have hpm := plainAll_mem hpl
  have hy := h.ev y
  rw [e] at hy
  have hnw : ∀ b d', d ≠ .wh b d' := by
    intro b d' e; subst e
    have := hpm (.wh b d') (by simp [dcells])
    simp [isPlain0] at this
  have hnt : ∀ l, d ≠ .tup l := by
    intro l e; subst e
    have := hpm (.tup l) (by simp [dcells])
    simp [isPlain0] at this
  have hnj : d ≠ .junk := by
    intro e; subst e
    have := hpm .junk (by simp [dcells])
    simp [isPlain0] at this
  obtain ⟨hl, hone, hp⟩ := hy.cells hnw hnt hnj
  obtain ⟨xs, hown, hszp, hr⟩ := obj_row (h.obj _ _ _ hi)
  rcases hown.2 with ⟨hv, _⟩ | ⟨g', cap, cur, hv, hB, hh, hnc, hcm, hcs, htake⟩
  · cases hv
  · cases hv
    have hl' : (a.eval y).cells.size = (dcells d).length := by simpa using hl
    have hkl := (List.getElem?_eq_some_iff.1 hed).1
    have h1 : (k + 1) * sz ≤ es.length * sz := Nat.mul_le_mul_right _ (by omega)
    rw [Nat.add_mul, Nat.one_mul] at h1
    have h2 : es.length * sz ≤ c * sz := Nat.mul_le_mul_right _ hnc
    have hfit' : k * sz + off + (a.eval y).cells.toList.length ≤ cur.toList.length := by simp only [Array.length_toList]; omega
    have hrun := store_run (P := P) (w := w) hT ho hs hx (by omega) hone hh (by omega)
    have hg : w.grownBy (w.setRow g (cur.toList.take (k * sz + off) ++ (a.eval y).cells.toList ++ cur.toList.drop (k * sz + off + (a.eval y).cells.toList.length)).toArray) (blk (.slice (some ⟨g, 0, none⟩) es.length c)) := setRow_grown
    refine wp_skip' hrun (Nx.put (os := os.set i (.slice (some ⟨g, 0, none⟩) es.length c, .row ty sz (es.set k (dsplice ed off (dcells d))))) (h.update hi (ob' := .row ty sz (es.set k (dsplice ed off (dcells d)))) ⟨rfl, rfl⟩ (by simp) (by simp) hg ?_) hd rep_gone hK)
    have hkeep := keeps_set (A0 := A0) (ob' := .row ty sz (es.set k (dsplice ed off (dcells d)))) hi (by simp) hg
    have hlenx : xs.length = es.length * sz := hown.1
    have hr' := hr.set (cells' := xs.take (k * sz + off) ++ (a.eval y).cells.toList ++ xs.drop (k * sz + off + (a.eval y).cells.toList.length)) (off := off) hed (by simp only [Array.length_toList]; omega) hl hone
      (fun j v d hv hd => (RepV.plain (hp j v d hv hd) (hpm d (List.mem_of_getElem? hd))).2) (lay_length (by simp only [Array.length_toList]; omega)) (fun j => get_lay (by simp only [Array.length_toList]; omega))
    refine row_obj (H := w0) (row_mine (h.obj _ _ _ hi)) (xs := xs.take (k * sz + off) ++ (a.eval y).cells.toList ++ xs.drop (k * sz + off + (a.eval y).cells.toList.length)) ⟨by rw [hr'.len], .inr ⟨g, c, _, by rw [List.length_set], hB, setRow_heap w g cur _ ty _ hh, by rw [List.length_set]; exact hnc, hcm, ?_, ?_⟩⟩ hszp (hr'.keep hkeep)
    · rw [List.size_toArray, lay_length hfit']
      simpa using hcs
    · rw [List.length_set]
      apply List.ext_getElem?
      intro j
      have hxl : ∀ j, j < es.length * sz → xs[j]? = cur.toList[j]? := by
        intro j hj
        rw [← htake, List.getElem?_take, if_pos hj]
      rw [get_lay (by simp only [Array.length_toList]; omega), List.getElem?_take]
      split
      · rename_i hj
        simp only []
        rw [get_lay hfit']
        split
        · rfl
        · exact (hxl j hj).symm
      · rename_i hj
        rw [if_neg (by simp only [Array.length_toList]; omega), List.getElem?_eq_none (by omega)]

theorem copy_run (hT : tabOk P tt = true) {t ty e : TypeId} (hk : (tinfo tt t).k = .slc e) (hs : (tinfo tt e).size ≠ 0) {g dl dc sl c : Nat} {ad : Addr} {cur : Array Value} {T : TypeId} {cs : List Value} (hg : w.heap[g]? = some (.cells cur T (0, 0)))
    (hn : cs.length = Nat.min sl dl * (tinfo tt e).size) (hsrc : ∀ (j : Nat) v, cs[j]? = some v → w.cell? (ad.add j) = some v) (hfit : cs.length ≤ cur.size) (h1 : ∀ v ∈ cs, v.oneCell' = true) :
    (Builtin.copy_ #[t, t] ty #[.slice (some ⟨g, 0, none⟩) dl dc, .slice (some ad) sl c]).run P w = .ok (.int .i64 (Nat.min sl dl : Nat)) (w.setRow g (cs ++ cur.toList.drop cs.length).toArray) := by
  have hu := tab_slc hT hk
  have hl := run_loadCells_list (P := P) w ad cs hsrc
  rw [hn] at hl
  have hst := run_storeCells_at P g 0 T cs 0 cur w hg (by simpa using hfit) h1
  simp only [Nat.zero_add, Nat.add_zero, List.take_zero, List.nil_append] at hst
  simp [Builtin.copy_, run_underlying hu, Builtin.lenOf, Builtin.firstCells, run_sizeOf_tab hT hs, hl, hst, goInt]
theorem copy_exec {t t' : TypeId} {x y : Operand} {args : Array Operand} {ats : Array TypeId} (ho : o.op = .call { callee := .builtin .copy, args := args, argTypes := ats }) (ha : args.toList = [x, y]) (hat : ats.toList = [t, t']) (htt : t = t') {r : Value} {w' : World}
    (hr : (Builtin.copy_ #[t, t] o.type #[a.eval x, a.eval y]).run P w = .ok r w') : (execOp a.eval o).run P w = .ok (.value r) w' := by
  obtain rfl : args = #[x, y] := by cases args; simp at ha; simp [ha]
  subst htt
  obtain rfl : ats = #[t, t] := by cases ats; simp at hat; simp [hat]
  simp only [execOp, ho, resolve, invoke, builtin, Sem.run_bind, Sem.run_pure, Result.andThen_ok, List.map_toArray, List.map_cons, List.map_nil, hr]
theorem copy_zero (hT : tabOk P tt = true) {t ty e : TypeId} (hk : (tinfo tt t).k = .slc e) (hs : (tinfo tt e).size ≠ 0) {ad ad' : Option Addr} {dl dc sl c : Nat} (hz : Nat.min sl dl = 0) :
    (Builtin.copy_ #[t, t] ty #[.slice ad dl dc, .slice ad' sl c]).run P w = .ok (.int .i64 (Nat.min sl dl : Nat)) w := by
  have hu := tab_slc hT hk
  cases ad <;> cases ad' <;> simp [Builtin.copy_, run_underlying hu, Builtin.lenOf, Builtin.firstCells, run_sizeOf_tab hT hs, hz, goInt, storeCells, loadCells, loadCellsFrom]
theorem copy_ok (hT : tabOk P tt = true) {t t' e : TypeId} {x y : Operand} {args : Array Operand} {ats : Array TypeId} {Q : Exit → Act → World → Prop} (ho : o.op = .call { callee := .builtin .copy, args := args, argTypes := ats }) (ha : args.toList = [x, y]) (hat : ats.toList = [t, t']) (htt : t = t')
    (hk : (tinfo tt t).k = .slc e) (hs : (tinfo tt e).size ≠ 0) (h : Rep A0 w0 n os s a w) (hd : ∀ t, o.dst = some t → t < n) (hK : dCopy tt e s o.dst (ev s x) (ev s y) K) : o.wp P a w (Nx A0 w0 n K) Q := by
  unfold dCopy at hK
  rw [h.loc] at hK
  obtain ⟨ys, sm, hK, hy⟩ := news_elim hs h.obj (h.ev y) hK
  have hx := h.ev x
  have hpos := Nat.pos_of_ne_zero hs
  have exec := fun {r : Value} {w' : World} => copy_exec (P := P) (w := w) (a := a) (r := r) (w' := w') ho ha hat htt
  have hyz : ∃ ad' c', a.eval y = .slice ad' ys.length c' := by
    rcases hy with ⟨hyv, rfl⟩ | ⟨ad, c, news, hyv, _⟩
    · exact ⟨_, _, hyv⟩
    · exact ⟨_, _, hyv⟩
  split at hK
  · rename_i ex
    rw [ex] at hx
    have hxv := hx.nl_inv
    obtain ⟨ad', c', hyv⟩ := hyz
    have hrun := copy_zero (P := P) (w := w) (ty := o.type) hT hk hs (ad := none) (ad' := ad') (dl := 0) (dc := 0) (sl := ys.length) (c := c') (by simp [Nat.min])
    have hm0 : Nat.min ys.length 0 = 0 := by simp [Nat.min]
    rw [hm0] at hrun
    exact wp_value (exec (by rw [hxv, hyv]; exact hrun)) (Nx.put h hd (.imm (.v rfl)) hK)
  · rename_i i ex
    rw [ex] at hx
    split at hK
    · rename_i e3 sz3 es3 hl
      split at hK
      · rename_i hb
        simp only [Bool.and_eq_true] at hb
        have hb1 := Nat.eq_of_beq_eq_true hb.1
        have hb2 := Nat.eq_of_beq_eq_true hb.2
        obtain ⟨x', hi⟩ := lget_os hl (by simp)
        have hxe := hx.own_row hi
        subst hxe
        subst hb1
        subst hb2
        rw [← h.loc] at hK
        obtain ⟨xs, hown, _, hrr⟩ := obj_row (h.obj _ _ _ hi)
        by_cases hz : Nat.min ys.length es3.length = 0
        · obtain ⟨ad', c', hyv⟩ := hyz
          have hxs : ∃ ad c, a.eval x = .slice ad es3.length c := by
            rcases own_cells hown with ⟨hv, rfl, _⟩ | ⟨g, cc, hv, _⟩
            · exact ⟨_, _, hv⟩
            · exact ⟨_, _, hv⟩
          obtain ⟨ad, c, hxv⟩ := hxs
          have hrun := copy_zero (P := P) (w := w) (ty := o.type) hT hk hs (ad := ad) (dc := c) (ad' := ad') (c := c') hz
          have heq : ys.take es3.length ++ es3.drop ys.length = es3 := by
            have : ys.length = 0 ∨ es3.length = 0 := by simp only [Nat.min_def] at hz; split at hz <;> omega
            rcases this with h0 | h0
            · have := List.eq_nil_of_length_eq_zero h0
              subst this
              simp
            · have := List.eq_nil_of_length_eq_zero h0
              subst this
              simp
          rw [heq] at hK
          refine wp_value (exec (by rw [hxv, hyv]; exact hrun)) (Nx.put (os := os) (s := ⟨s.env, lset s.loc i (.row e3 (tinfo tt e3).size es3)⟩) ?_ hd (.imm (.v rfl)) hK)
          have hself : lset s.loc i (.row e3 (tinfo tt e3).size es3) = s.loc := by
            rw [lset_eq, h.loc]
            apply List.ext_getElem?
            intro j
            by_cases e : j = i
            · subst e
              rw [List.getElem?_set_self (by simpa using (List.getElem?_eq_some_iff.1 hi).1), List.getElem?_map, hi]
              rfl
            · rw [List.getElem?_set_ne (fun e' => e e'.symm)]
          rw [hself]
          exact h
        · rcases hy with ⟨hyv, rfl⟩ | ⟨ad, c, news, hyv, hr, hc⟩
          · simp [Nat.min] at hz
          · rcases hown.2 with ⟨hv, hn0⟩ | ⟨g, cap, cur, hv, hB, hh, hnc, hcm, hcs, htake⟩
            · rw [hn0] at hz
              simp [Nat.min] at hz
            · have hmin : Nat.min ys.length es3.length * (tinfo tt e3).size ≤ news.length := by rw [hr.len]; exact Nat.mul_le_mul_right _ (Nat.min_le_left _ _)
              have hmin2 : Nat.min ys.length es3.length * (tinfo tt e3).size ≤ es3.length * (tinfo tt e3).size := Nat.mul_le_mul_right _ (Nat.min_le_right _ _)
              have hcap : es3.length * (tinfo tt e3).size ≤ cap * (tinfo tt e3).size := Nat.mul_le_mul_right _ hnc
              have hcl : (news.take (Nat.min ys.length es3.length * (tinfo tt e3).size)).length = Nat.min ys.length es3.length * (tinfo tt e3).size := by simp; omega
              have hrun := copy_run (P := P) (w := w) (ty := o.type) (dl := es3.length) (dc := cap) (sl := ys.length) (c := c) (ad := ad) hT hk hs hh (cs := news.take (Nat.min ys.length es3.length * (tinfo tt e3).size)) hcl
                (fun j v hj => hc j v (by rw [List.getElem?_take] at hj; split at hj; exact hj; cases hj)) (by rw [hcl, hcs]; omega) (fun v hv => hr.one v (List.mem_of_mem_take hv))
              have hi2 := hi
              rw [hv] at hi2
              have hg : w.grownBy (w.setRow g (news.take (Nat.min ys.length es3.length * (tinfo tt e3).size) ++ cur.toList.drop (news.take (Nat.min ys.length es3.length * (tinfo tt e3).size)).length).toArray) (blk (.slice (some ⟨g, 0, none⟩) es3.length cap)) := setRow_grown
              refine wp_value (exec (by rw [hv, hyv]; exact hrun)) (Nx.put (os := os.set i (.slice (some ⟨g, 0, none⟩) es3.length cap, .row e3 (tinfo tt e3).size (ys.take es3.length ++ es3.drop ys.length))) (h.update hi2 (ob' := .row e3 (tinfo tt e3).size (ys.take es3.length ++ es3.drop ys.length)) ⟨rfl, rfl⟩ (by simp) (by simp) hg ?_) hd (.imm (.v rfl)) hK)
              have hkeep := keeps_set (A0 := A0) (ob' := .row e3 (tinfo tt e3).size (ys.take es3.length ++ es3.drop ys.length)) hi2 (by simp) hg
              have hlen : (ys.take es3.length ++ es3.drop ys.length).length = es3.length := by simp; omega
              have hpart : ∀ {zs : List Value} {fs : List (List DV)} {q : Nat}, RowRep (avoid A0 os) w zs fs (tinfo tt e3).size → RowRep (avoid A0 os) w (zs.take (q * (tinfo tt e3).size)) (fs.take q) (tinfo tt e3).size := by
                intro zs fs q hz
                refine ⟨?_, fun r hr => hz.rows r (List.mem_of_mem_take hr), fun v hv => hz.one v (List.mem_of_mem_take hv), fun k j r d hk hj => ?_⟩
                · rw [List.length_take, List.length_take, hz.len]
                  simp only [Nat.min_def]
                  split
                  · rename_i hh
                    rw [if_pos (Nat.le_of_mul_le_mul_right hh hpos)]
                  · rename_i hh
                    rw [if_neg (fun h2 => hh (Nat.mul_le_mul_right _ h2))]
                · rw [List.getElem?_take] at hk
                  split at hk
                  · rename_i hkq
                    obtain ⟨v, hv, hi⟩ := hz.rep k j r d hk hj
                    have hrl := hz.rows _ (List.mem_of_getElem? hk)
                    have hjl := (List.getElem?_eq_some_iff.1 hj).1
                    have h5 : (k + 1) * (tinfo tt e3).size ≤ q * (tinfo tt e3).size := Nat.mul_le_mul_right _ (by omega)
                    rw [Nat.add_mul, Nat.one_mul] at h5
                    refine ⟨v, ?_, hi⟩
                    rw [List.getElem?_take, if_pos (by omega)]
                    exact hv
                  · cases hk
              have hrest : ∀ {zs : List Value} {fs : List (List DV)} {q : Nat}, RowRep (avoid A0 os) w zs fs (tinfo tt e3).size → RowRep (avoid A0 os) w (zs.drop (q * (tinfo tt e3).size)) (fs.drop q) (tinfo tt e3).size := by
                intro zs fs q hz
                refine ⟨by rw [List.length_drop, List.length_drop, hz.len, Nat.sub_mul], fun r hr => hz.rows r (List.mem_of_mem_drop hr), fun v hv => hz.one v (List.mem_of_mem_drop hv), fun k j r d hk hj => ?_⟩
                rw [List.getElem?_drop] at hk
                obtain ⟨v, hv, hi⟩ := hz.rep _ j r d hk hj
                refine ⟨v, ?_, hi⟩
                rw [List.getElem?_drop, ← hv]
                congr 1
                rw [Nat.add_mul]
                omega
              have hmr := (hpart (q := Nat.min ys.length es3.length) hr).append (hrest (q := ys.length) hrr)
              have e1 : ys.take (Nat.min ys.length es3.length) = ys.take es3.length := by
                simp only [Nat.min_def]
                split
                · rename_i hle
                  rw [List.take_of_length_le (Nat.le_refl _), List.take_of_length_le hle]
                · rfl
              rw [e1] at hmr
              refine row_obj (H := w0) (row_mine (h.obj _ _ _ hi2)) (xs := news.take (Nat.min ys.length es3.length * (tinfo tt e3).size) ++ xs.drop (ys.length * (tinfo tt e3).size)) ⟨by rw [hmr.len], .inr ⟨g, cap, _, by rw [hlen], hB, setRow_heap w g cur _ e3 _ hh, by rw [hlen]; exact hnc, hcm, ?_, ?_⟩⟩ hpos (hmr.keep hkeep)
              · have hcl2 : cur.toList.length = cap * (tinfo tt e3).size := (Array.length_toList (xs := cur)).trans hcs
                rw [List.size_toArray, List.length_append, hcl, List.length_drop, hcl2]
                omega
              · rw [hlen]
                simp only []
                rw [hcl]
                have hxl : xs.length = es3.length * (tinfo tt e3).size := hown.1
                rw [List.take_append, hcl]
                rw [List.take_of_length_le (by rw [hcl]; exact hmin2)]
                congr 1
                apply List.ext_getElem?
                intro j
                rw [List.getElem?_take, List.getElem?_drop, List.getElem?_drop]
                have hxj : ∀ q, xs[q]? = if q < es3.length * (tinfo tt e3).size then cur.toList[q]? else none := by
                  intro q
                  rw [← htake, List.getElem?_take]
                rw [hxj]
                by_cases hle : ys.length ≤ es3.length
                · have h6 : Nat.min ys.length es3.length = ys.length := Nat.min_eq_left hle
                  rw [h6]
                  have h7 : ys.length * (tinfo tt e3).size ≤ es3.length * (tinfo tt e3).size := Nat.mul_le_mul_right _ hle
                  by_cases hj : j < es3.length * (tinfo tt e3).size - ys.length * (tinfo tt e3).size
                  · rw [if_pos hj, if_pos (by omega)]
                  · rw [if_neg hj, if_neg (by omega)]
                · have h6 : Nat.min ys.length es3.length = es3.length := Nat.min_eq_right (by omega)
                  rw [h6]
                  have h7 : es3.length * (tinfo tt e3).size ≤ ys.length * (tinfo tt e3).size := Nat.mul_le_mul_right _ (by omega)
                  rw [if_neg (by omega), if_neg (by omega)]
      · exact hK.elim
    · exact hK.elim
  · exact hK.elim
end
end Go.Lift

namespace Go.Lift
open Go

section
variable {P : Program} {tt : TT} {A0 : Nat → Prop} {w0 : Home} {n : Nat} {os : Objs} {s : DS} {a : Act} {w : World} {o : Oper} {K : DS → Prop} {A : Nat → Prop}

theorem push_dead (h : Rep A0 w0 n os s a w) : ∀ m, ∃ os', Rep A0 w0 n os' ⟨s.env, s.loc ++ List.replicate m .dead⟩ a w
  | 0 => ⟨os, by simpa using h⟩
  | m + 1 => by
    obtain ⟨os', h'⟩ := push_dead h m
    have := h'.push (x := .nilFunc) (ob := .dead) (grownBy.refl' w none) (by simp [blk]) trivial
    refine ⟨os' ++ [(.nilFunc, .dead)], ?_⟩
    rw [List.replicate_succ', ← List.append_assoc]
    exact this

theorem RepV.less {x : Value} {d d' : DV} (hd : dle d d') (h : RepV A os w x d) : RepV A os w x d' := by
  induction hd generalizing x with
  | refl => exact h
  | nil hf => exact .imm (h.lst_inv.le (.nil hf))
  | nl => rw [h.nl_inv]; exact .imm .nil
  | lst => exact .imm (h.lst_inv.le .lst)
  | rows hl hr hh ih => exact .imm (h.lst_inv.le (.rows hl hr hh))
  | @agg cs ds hl hc ih =>
    cases h with
    | imm h => exact .imm (h.le (.agg hl hc))
    | stale h hd h1 => rcases hd with hd | ⟨_, _, hd⟩ <;> cases hd
    | @agg vs _ hl' hone h =>
      refine .agg (by omega) hone (fun i v d hv hd => ?_)
      have hlt := (List.getElem?_eq_some_iff.1 hv).1
      have hc' := List.getElem?_eq_getElem (l := cs) (i := i) (by omega)
      exact ih i _ d hc' hd (h i v _ hv hc')
  | @tup cs ds hl hc ih =>
    obtain ⟨vs, rfl, hl', hown, hp⟩ := h.tup_inv
    have get : ∀ {i : Nat} {v : Value}, vs[i]? = some v → ∃ c, cs[i]? = some c := fun {i v} hv => by
      have hlt := (List.getElem?_eq_some_iff.1 hv).1
      exact ⟨_, List.getElem?_eq_getElem (l := cs) (i := i) (by omega)⟩
    refine .tup (by omega) (fun i v d hv hd => ?_) (fun i v d hv hd => ?_)
    · obtain ⟨c, hcc⟩ := get hv
      rcases hown i v c hv hcc with ho | ho
      · have hdc := hc i c d hcc hd
        cases c <;> simp [isOwn] at ho
        cases hdc with
        | refl => exact .inl rfl
        | junk => exact .inr .junk
      · exact .inr (ho.le (hc i c d hcc hd))
    · obtain ⟨c, hcc⟩ := get hv
      exact ih i c d hcc hd (hp i v c hv hcc)
  | junk => exact .imm .junk

theorem nth_get : ∀ {l : List Nat} {k : Nat}, k < l.length → l[k]? = some (nth l k)
  | [], k, h => by simp at h
  | i :: r, 0, _ => rfl
  | i :: r, k + 1, h => by simpa [nth] using nth_get (l := r) (k := k) (by simpa using h)
theorem nodupB_iff : ∀ {l : List Nat}, nodupB l = true → l.Nodup
  | [], _ => List.nodup_nil
  | i :: r, h => by
    simp only [nodupB, Bool.and_eq_true, Bool.not_eq_true', List.contains_eq_mem, decide_eq_false_iff_not] at h
    exact List.nodup_cons.2 ⟨h.1, nodupB_iff h.2⟩
theorem nodup_get {l : List Nat} (hn : l.Nodup) {i j x : Nat} (hi : l[i]? = some x) (hj : l[j]? = some x) : i = j := by
  obtain ⟨h1, e1⟩ := List.getElem?_eq_some_iff.1 hi
  obtain ⟨h2, e2⟩ := List.getElem?_eq_some_iff.1 hj
  exact (List.getElem_inj hn).1 (e1.trans e2.symm)
theorem nth_inj {l : List Nat} (hn : l.Nodup) {i j : Nat} (hi : i < l.length) (hj : j < l.length) (h : nth l i = nth l j) : i = j :=
  nodup_get hn (nth_get hi) (by rw [h]; exact nth_get hj)

section
variable {m : List LObj}
theorem bndL_get : ∀ {l : List LObj} {i : Nat} {ty : TypeId} {cs : List DV}, bndL m l = true → l[i]? = some (.cells ty cs) → ∀ d ∈ cs, bnd0 m d = true
  | [], i, _, _, _, hi => by simp at hi
  | .cells t cs' :: r, 0, ty, cs, h, hi => by
    simp at hi
    obtain ⟨rfl, rfl⟩ := hi
    simp only [bndL, Bool.and_eq_true, List.all_eq_true] at h
    exact h.1
  | .cells t cs' :: r, i + 1, ty, cs, h, hi => by
    simp only [bndL, Bool.and_eq_true] at h
    exact bndL_get (i := i) h.2 (by simpa using hi)
  | .row _ _ _ :: r, 0, ty, cs, h, hi => by simp at hi
  | .row _ _ _ :: r, i + 1, ty, cs, h, hi => bndL_get (i := i) (l := r) h (by simpa using hi)
  | .dead :: r, 0, ty, cs, h, hi => by simp at hi
  | .dead :: r, i + 1, ty, cs, h, hi => bndL_get (i := i) (l := r) h (by simpa using hi)
  | .gone :: r, 0, ty, cs, h, hi => by simp at hi
  | .gone :: r, i + 1, ty, cs, h, hi => bndL_get (i := i) (l := r) h (by simpa using hi)
  | .gh _ :: r, 0, ty, cs, h, hi => by simp at hi
  | .gh _ :: r, i + 1, ty, cs, h, hi => by
    simp only [bndL, Bool.and_eq_true] at h
    exact bndL_get (i := i) h.2 (by simpa using hi)
end

structure Seen (A0 : Nat → Prop) (os os_c : Objs) (tgt : List Nat) (L : List LObj) (m : Nat) : Prop where
  len : os_c.length = m
  mt : m ≤ tgt.length
  get : ∀ (k : Nat) x ob, os_c[k]? = some (x, ob) → k < m ∧ L[k]? = some ob ∧ ∃ o, os[nth tgt k]? = some (x, o) ∧ ole o (mvO (nth tgt) ob)
  snd : os_c.map (·.2) = L

theorem ole_row' {o : LObj} {ρ : Nat → Nat} {e : TypeId} {sz : Nat} {es : List (List DV)} (h : ole o (mvO ρ (.row e sz es))) : o = .row e sz es := by
  cases h with
  | refl => rfl
theorem ole_cells' {o : LObj} {ρ : Nat → Nat} {t : TypeId} {cs : List DV} (h : ole o (mvO ρ (.cells t cs))) : ∃ cs', o = .cells t cs' ∧ cs'.length = cs.length ∧ ∀ (i : Nat) c d, cs'[i]? = some c → cs[i]? = some d → dle c (mv0 ρ d) := by
  cases h with
  | refl => exact ⟨_, rfl, by simp, fun i c d hc hd => by
      rw [List.getElem?_map, hd] at hc
      cases hc
      exact .refl⟩
  | cells hl h => exact ⟨_, rfl, by simpa using hl, fun i c d hc hd => h i c _ hc (by rw [List.getElem?_map, hd]; rfl)⟩

variable {os_c : Objs} {tgt : List Nat} {L : List LObj} {m : Nat} {A_c : Nat → Prop}
theorem Seen.row (hS : Seen A0 os os_c tgt L m) {j : Nat} (h : isRow (lget L j) = true) : ∃ x e sz es, os_c[j]? = some (x, .row e sz es) ∧ os[nth tgt j]? = some (x, .row e sz es) := by
  rw [← hS.snd] at h
  obtain ⟨x, e, sz, es, hj⟩ := isRow_os h
  obtain ⟨_, _, o, ho, hle⟩ := hS.get j _ _ hj
  rw [ole_row' hle] at ho
  exact ⟨x, e, sz, es, hj, ho⟩
theorem Seen.cells (hS : Seen A0 os os_c tgt L m) {j : Nat} (h : isCells (lget L j) = true) : ∃ x t cs cs', os_c[j]? = some (x, .cells t cs) ∧ os[nth tgt j]? = some (x, .cells t cs') := by
  rw [← hS.snd] at h
  obtain ⟨x, t, cs, hj⟩ := isCells_os h
  obtain ⟨_, _, o, ho, hle⟩ := hS.get j _ _ hj
  obtain ⟨cs', rfl, _⟩ := ole_cells' hle
  exact ⟨x, t, cs, cs', hj, ho⟩
theorem unren0 (hS : Seen A0 os os_c tgt L m) (k : Keeps A (avoid A_c os_c) w w) {v : Value} {d : DV} (hb : bnd0 L d = true) (h : RepV A os w v (mv0 (nth tgt) d)) : RepV (avoid A_c os_c) os_c w v d := by
  cases d with
  | own j =>
    obtain ⟨x, e, sz, es, h1, h2⟩ := hS.row hb
    have := h.own_row h2
    subst this
    exact .own h1 h.own_inv.1
  | rp j kk off =>
    obtain ⟨x, e, sz, es, h1, h2⟩ := hS.row hb
    obtain ⟨g, n, c, rfl, rfl⟩ := h.rp_row h2
    exact .rp h1
  | lp j off =>
    obtain ⟨x, t, cs, cs', h1, h2⟩ := hS.cells hb
    obtain ⟨g, t', cs2, h3, rfl⟩ := h.lp_inv
    rw [h2] at h3
    cases h3
    exact .lp h1
  | ap j off =>
    obtain ⟨x, t, cs, cs', h1, h2⟩ := hS.cells hb
    obtain ⟨g, t', cs2, h3, rfl⟩ := h.ap_inv
    rw [h2] at h3
    cases h3
    exact .ap h1
  | fn f caps =>
    have h : RepV A os w v (.fn f (caps.map (mvC (nth tgt)))) := h
    simp only [bnd0, List.all_eq_true] at hb
    have one : ∀ {x : Value} {c : DV}, c ∈ caps → RepV A os w x (mvC (nth tgt) c) → (∃ j off, c = .lp j off) → RepV (avoid A_c os_c) os_c w x c := by
      rintro x c hc hx ⟨j, off, rfl⟩
      have hb := hb _ hc
      obtain ⟨x', t, cs, cs', h1, h2⟩ := hS.cells hb
      obtain ⟨g, t', cs2, h3, rfl⟩ := RepV.lp_inv hx
      rw [h2] at h3
      cases h3
      exact .lp h1
    cases h with
    | imm h =>
      cases h with
      | fn hl hp =>
        refine .imm (.fn (by simpa using hl) (fun i x c hx hc => ?_))
        have h2 := hp i x (mvC (nth tgt) c) hx (by rw [List.getElem?_map, hc]; rfl)
        by_cases hlp : ∃ j off, c = .lp j off
        · obtain ⟨j, off, rfl⟩ := hlp
          cases h2
        · have : mvC (nth tgt) c = c := by cases c <;> first | rfl | exact absurd ⟨_, _, rfl⟩ hlp
          rw [this] at h2
          exact h2.keep k
    | stale h hd h1 => rcases hd with hd | ⟨_, _, hd⟩ <;> cases hd
    | fn hl hcap hp =>
      refine .fn (by simpa using hl) (fun c hc => ?_) (fun i x c hx hc => ?_)
      · have := hcap (mvC (nth tgt) c) (List.mem_map_of_mem hc)
        cases c <;> first | exact this | rfl
      · have h2 := hp i x (mvC (nth tgt) c) hx (by rw [List.getElem?_map, hc]; rfl)
        have hcm := List.mem_of_getElem? hc
        by_cases hlp : ∃ j off, c = .lp j off
        · exact one hcm h2 hlp
        · have e1 : mvC (nth tgt) c = c := by cases c <;> first | rfl | exact absurd ⟨_, _, rfl⟩ hlp
          rw [e1] at h2
          have hcc := hcap _ (List.mem_map_of_mem (f := mvC (nth tgt)) hcm)
          rw [e1] at hcc
          by_cases hip : ∃ cs, c = .ip cs
          · obtain ⟨cs, rfl⟩ := hip
            exact .imm (h2.ip_inv.keep k)
          · refine .imm ((h2.plain ?_).2.keep k)
            cases c
            case lp => exact absurd ⟨_, _, rfl⟩ hlp
            case ip => exact absurd ⟨_, rfl⟩ hip
            case fn g cs =>
              have : cs = [] := by cases cs <;> simp_all [isCap, plainCap]
              subst this
              rfl
            all_goals first | rfl | (simp [isCap, plainCap] at hcc)
  | agg cs => simp [bnd0] at hb
  | tup ds => simp [bnd0] at hb
  | wh b d => simp [bnd0] at hb
  | v y => obtain ⟨rfl, h1⟩ := RepV.v_inv h; exact .imm (.v h1)
  | lst sz es f => exact .imm ((RepV.lst_inv h).keep k)
  | ip cs => exact .imm ((RepV.ip_inv h).keep k)
  | nl => rw [RepV.nl_inv h]; exact .imm .nl
  | junk => exact .imm .junk
theorem unrenT (hS : Seen A0 os os_c tgt L m) (k : Keeps A (avoid A_c os_c) w w) {v : Value} {d : DV} (hb : bnd L d = true) (h : RepV A os w v (mvT (nth tgt) d)) : RepV (avoid A_c os_c) os_c w v d := by
  by_cases hd : ∃ cs, d = .agg cs
  · obtain ⟨cs, rfl⟩ := hd
    obtain ⟨vs, rfl, hl, hone, hp⟩ := RepV.agg_inv h
    simp only [bnd, List.all_eq_true] at hb
    exact .agg (by simpa using hl) hone (fun i v c hv hc => unren0 hS k (hb c (List.mem_of_getElem? hc)) (hp i v _ hv (by rw [List.getElem?_map, hc]; rfl)))
  · by_cases hw : ∃ b e, d = .wh b e
    · obtain ⟨b, e, rfl⟩ := hw
      simp [bnd, bnd0] at hb
    · have h1 : bnd L d = bnd0 L d := by cases d <;> first | rfl | exact absurd ⟨_, rfl⟩ hd
      have ht : ¬ ∃ ds, d = .tup ds := by
        rintro ⟨ds, rfl⟩
        simp [bnd, bnd0] at hb
      have h2 : mvT (nth tgt) d = mv0 (nth tgt) d := by cases d <;> first | rfl | exact absurd ⟨_, rfl⟩ hd | exact absurd ⟨_, _, rfl⟩ hw | exact absurd ⟨_, rfl⟩ ht
      rw [h1] at hb
      rw [h2] at h
      exact unren0 hS k hb h

structure Back (os os' os_c : Objs) (tgt J : List Nat) (q : Nat) : Prop where
  len : os_c.length = q
  qt : q = tgt.length
  nd : tgt.Nodup
  get : ∀ (k : Nat) x ob, os_c[k]? = some (x, ob) → os'[nth tgt k]? = some (x, mvO (nth tgt) ob)
  oth : ∀ i, i ∉ tgt → os'[i]? = (os[i]?).map fun p => (p.1, mapO (jk0 J) p.2)

theorem reren {os' : Objs} {J : List Nat} {q : Nat} (hB : Back os os' os_c tgt J q) (k : Keeps (avoid A_c os_c) A w w) {v : Value} {d : DV} (h : RepV (avoid A_c os_c) os_c w v d) : (v.oneCell' = true → RepV A os' w v (mv0 (nth tgt) d)) ∧ RepV A os' w v (mvT (nth tgt) d) := by
  have himm : ∀ {v : Value} {d : DV}, Imm (avoid A_c os_c) w v d → Imm A w v (mv0 (nth tgt) d) ∧ Imm A w v (mvT (nth tgt) d) := by
    intro v d hz
    induction hz with
    | v h => exact ⟨.v h, .v h⟩
    | lst xs hn hc hm hf hsz hA hb hone hcell hx ih => exact ⟨(Imm.lst xs hn hc hm hf hsz hA hb hone hcell hx).keep k, (Imm.lst xs hn hc hm hf hsz hA hb hone hcell hx).keep k⟩
    | nil => exact ⟨.nil, .nil⟩
    | nl => exact ⟨.nl, .nl⟩
    | agg hl hone h ih =>
      refine ⟨(Imm.agg hl hone h).keep k, .agg (by simpa using hl) hone (fun j v d hv hd => ?_)⟩
      rw [List.getElem?_map] at hd
      rename_i ds
      cases hj : ds[j]? with
      | none => rw [hj] at hd; cases hd
      | some e => rw [hj] at hd; simp at hd; subst hd; exact (ih j v e hv hj).1
    | @tup vs ds hl h ih =>
      refine ⟨(Imm.tup hl h).keep k, .tup (by simpa using hl) (fun j v d hv hd => ?_)⟩
      rw [List.getElem?_map] at hd
      cases hj : ds[j]? with
      | none => rw [hj] at hd; cases hd
      | some e => rw [hj] at hd; simp at hd; subst hd; exact (ih j v e hv hj).1
    | ip xs hA hb hone hcell hx _ => exact ⟨(Imm.ip xs hA hb hone hcell hx).keep k, (Imm.ip xs hA hb hone hcell hx).keep k⟩
    | @fn f vs ds hl h _ =>
      have key : Imm A w (.func f #[] vs.toArray) (.fn f (ds.map (mvC (nth tgt)))) := by
        refine .fn (by simpa using hl) (fun j v d hv hd => ?_)
        rw [List.getElem?_map] at hd
        cases hj : ds[j]? with
        | none => rw [hj] at hd; cases hd
        | some e =>
          rw [hj] at hd
          simp at hd
          subst hd
          have h2 := h j v e hv hj
          cases e
          case lp => cases h2
          all_goals exact h2.keep k
      exact ⟨key, key⟩
    | wh _ h0 ih => exact ⟨.wh (fun hb => (ih hb).1) h0, .wh (fun hb => (ih hb).2) h0⟩
    | junk => exact ⟨.junk, .junk⟩
  induction h with
  | imm h => exact ⟨fun _ => .imm (himm h).1, .imm (himm h).2⟩
  | lp h => have := hB.get _ _ _ h; exact ⟨fun _ => .lp this, .lp this⟩
  | ap h => have := hB.get _ _ _ h; exact ⟨fun _ => .ap this, .ap this⟩
  | rp h => have := hB.get _ _ _ h; exact ⟨fun _ => .rp this, .rp this⟩
  | own h h1 => have := hB.get _ _ _ h; exact ⟨fun _ => .own this h1, .own this h1⟩
  | stale h hd h1 =>
    have := hB.get _ _ _ h
    rcases hd with rfl | ⟨_, _, rfl⟩
    · exact ⟨fun _ => .stale this (.inl rfl) h1, .stale this (.inl rfl) h1⟩
    · exact ⟨fun _ => .stale this (.inr ⟨_, _, rfl⟩) h1, .stale this (.inr ⟨_, _, rfl⟩) h1⟩
  | @agg vs ds hl hone _ ih =>
    refine ⟨fun h => by simp [Value.oneCell'] at h, .agg (by simpa using hl) hone (fun j v d hv hd => ?_)⟩
    rw [List.getElem?_map] at hd
    cases hj : ds[j]? with
    | none => rw [hj] at hd; cases hd
    | some e => rw [hj] at hd; simp at hd; subst hd; exact (ih j v e hv hj).1 (hone v (List.mem_of_getElem? hv))
  | @fn f vs ds hl hcap hh ih =>
    have key : RepV A os' w (.func f #[] vs.toArray) (.fn f (ds.map (mvC (nth tgt)))) := by
      refine .fn (by simpa using hl) (fun d hd => ?_) (fun j v d hv hd => ?_)
      · obtain ⟨e, he, rfl⟩ := List.mem_map.1 hd
        have := hcap e he
        cases e <;> first | exact this | rfl
      · rw [List.getElem?_map] at hd
        cases hj : ds[j]? with
        | none => rw [hj] at hd; cases hd
        | some e =>
          rw [hj] at hd
          simp at hd
          subst hd
          have h2 := (ih j v e hv hj).2
          have hc := hcap e (List.mem_of_getElem? hj)
          cases e
          case fn g cs =>
            have : cs = [] := by cases cs <;> simp_all [isCap, plainCap]
            subst this
            exact h2
          all_goals first | exact h2 | (simp [isCap, plainCap] at hc)
    exact ⟨fun _ => key, key⟩
  | @tup vs ds hl hown hh ih =>
    refine ⟨fun h1 => by simp [Value.oneCell'] at h1, .tup (by simpa using hl) (fun j v d hv hd => ?_) (fun j v d hv hd => ?_)⟩
    · rw [List.getElem?_map] at hd
      cases hj : ds[j]? with
      | none => rw [hj] at hd; cases hd
      | some e =>
        rw [hj] at hd
        simp at hd
        subst hd
        rcases hown j v e hv hj with ho | ho
        · cases e <;> simp [isOwn] at ho
          exact .inl rfl
        · exact .inr (himm ho).1
    · rw [List.getElem?_map] at hd
      cases hj : ds[j]? with
      | none => rw [hj] at hd; cases hd
      | some e =>
        rw [hj] at hd
        simp at hd
        subst hd
        rcases hown j v e hv hj with ho | ho
        · have h2 := hh j v e hv hj
          cases e <;> simp [isOwn] at ho
          exact (ih j v _ hv hj).1 h2.own_inv.1
        · exact .imm (himm ho).1
  | wh _ h0 ih => exact ⟨fun h1 => .wh (fun hb => (ih hb).1 h1) h0, .wh (fun hb => (ih hb).2) h0⟩

theorem void0 {os' : Objs} {J : List Nat} {A A' : Nat → Prop} {w' : World} (k : Keeps A A' w w')
    (hkeep : ∀ (i : Nat) x o, i ∉ J → os[i]? = some (x, o) → o ≠ .dead → (∃ e sz es, o = .row e sz es) ∨ (∃ t cs, o = .cells t cs) ∨ o = .gone → ∃ y o', os'[i]? = some (y, o') ∧ (y = x ∧ kindIs o o' ∨ (∃ e sz es, o = .row e sz es) ∧ o' = .gone))
    {v : Value} {d : DV} (h : RepV A os w v d) : (v.oneCell' = true → RepV A' os' w' v (jk0 J d)) ∧ RepV A' os' w' v (jkT J d) := by
  have himm : ∀ {v : Value} {d : DV}, Imm A w v d → Imm A' w' v (jk0 J d) ∧ Imm A' w' v (jkT J d) := by
    intro v d hz
    induction hz with
    | v h => exact ⟨.v h, .v h⟩
    | lst xs hn hc hm hf hsz hA hb hone hcell hx ih => exact ⟨(Imm.lst xs hn hc hm hf hsz hA hb hone hcell hx).keep k, (Imm.lst xs hn hc hm hf hsz hA hb hone hcell hx).keep k⟩
    | nil => exact ⟨.nil, .nil⟩
    | nl => exact ⟨.nl, .nl⟩
    | agg hl hone h ih =>
      refine ⟨(Imm.agg hl hone h).keep k, .agg (by simpa using hl) hone (fun j v d hv hd => ?_)⟩
      rw [List.getElem?_map] at hd
      rename_i ds
      cases hj : ds[j]? with
      | none => rw [hj] at hd; cases hd
      | some e => rw [hj] at hd; simp at hd; subst hd; exact (ih j v e hv hj).1
    | @tup vs ds hl h ih =>
      refine ⟨(Imm.tup hl h).keep k, .tup (by simpa using hl) (fun j v d hv hd => ?_)⟩
      rw [List.getElem?_map] at hd
      cases hj : ds[j]? with
      | none => rw [hj] at hd; cases hd
      | some e => rw [hj] at hd; simp at hd; subst hd; exact (ih j v e hv hj).1
    | ip xs hA hb hone hcell hx _ => exact ⟨(Imm.ip xs hA hb hone hcell hx).keep k, (Imm.ip xs hA hb hone hcell hx).keep k⟩
    | @fn f vs ds hl h _ =>
      have key : Imm A' w' (.func f #[] vs.toArray) (jk0 J (.fn f ds)) := by
        simp only [jk0]
        split
        · exact .junk
        · exact (Imm.fn hl h).keep k
      exact ⟨key, key⟩
    | wh _ h0 ih => exact ⟨.wh (fun hb => (ih hb).1) h0, .wh (fun hb => (ih hb).2) h0⟩
    | junk => exact ⟨.junk, .junk⟩
  have nin : ∀ {j : Nat}, J.contains j = false → j ∉ J := by
    intro j h
    simpa using h
  induction h with
  | imm h => exact ⟨fun _ => .imm (himm h).1, .imm (himm h).2⟩
  | @lp j off g t cs h =>
    have key : RepV A' os' w' (.pointer (some ⟨g, off, none⟩)) (jk0 J (.lp j off)) := by
      simp only [jk0]
      split
      · exact .imm .junk
      · rename_i hb
        obtain ⟨y, o', h', (⟨rfl, hk⟩ | ⟨⟨_, _, _, he⟩, _⟩)⟩ := hkeep _ _ _ (nin hb) h (by simp) (.inr (.inl ⟨_, _, rfl⟩))
        case inr => cases he
        cases o' <;> simp [kindIs] at hk
        exact .lp h'
    exact ⟨fun _ => key, key⟩
  | @ap j off g t cs h =>
    have key : RepV A' os' w' (.pointer (some ⟨g, off, none⟩)) (jk0 J (.ap j off)) := by
      simp only [jk0]
      split
      · exact .imm .junk
      · rename_i hb
        obtain ⟨y, o', h', (⟨rfl, hk⟩ | ⟨⟨_, _, _, he⟩, _⟩)⟩ := hkeep _ _ _ (nin hb) h (by simp) (.inr (.inl ⟨_, _, rfl⟩))
        case inr => cases he
        cases o' <;> simp [kindIs] at hk
        exact .ap h'
    exact ⟨fun _ => key, key⟩
  | @rp j kk off g n c e sz es h =>
    have key : RepV A' os' w' (.pointer (some ⟨g, kk * sz + off, none⟩)) (jk0 J (.rp j kk off)) := by
      simp only [jk0]
      split
      · exact .imm .junk
      · rename_i hb
        obtain ⟨y, o', h', (⟨rfl, hk⟩ | ⟨_, rfl⟩)⟩ := hkeep _ _ _ (nin hb) h (by simp) (.inl ⟨_, _, _, rfl⟩)
        · cases o' <;> simp [kindIs] at hk
          obtain ⟨rfl, rfl⟩ := hk
          exact .rp h'
        · exact .stale h' (.inr ⟨_, _, rfl⟩) rfl
    exact ⟨fun _ => key, key⟩
  | @own j x e sz es h h1 =>
    have key : RepV A' os' w' x (jk0 J (.own j)) := by
      simp only [jk0]
      split
      · exact .imm .junk
      · rename_i hb
        obtain ⟨y, o', h', (⟨rfl, hk⟩ | ⟨_, rfl⟩)⟩ := hkeep _ _ _ (nin hb) h (by simp) (.inl ⟨_, _, _, rfl⟩)
        · cases o' <;> simp [kindIs] at hk
          exact .own h' h1
        · exact .stale h' (.inl rfl) h1
    exact ⟨fun _ => key, key⟩
  | @stale j x y d h hd h1 =>
    have gone : j ∉ J → ∃ y, os'[j]? = some (y, .gone) := fun hj => by
      obtain ⟨y, o', h', (⟨rfl, hk⟩ | ⟨⟨_, _, _, he⟩, _⟩)⟩ := hkeep _ _ _ hj h (by simp) (.inr (.inr rfl))
      case inr => cases he
      cases o' <;> simp [kindIs] at hk
      exact ⟨_, h'⟩
    rcases hd with rfl | ⟨kk, off, rfl⟩
    · have key : RepV A' os' w' x (jk0 J (.own j)) := by
        simp only [jk0]
        split
        · exact .imm .junk
        · rename_i hb
          obtain ⟨y', h'⟩ := gone (nin hb)
          exact .stale h' (.inl rfl) h1
      exact ⟨fun _ => key, key⟩
    · have key : RepV A' os' w' x (jk0 J (.rp j kk off)) := by
        simp only [jk0]
        split
        · exact .imm .junk
        · rename_i hb
          obtain ⟨y', h'⟩ := gone (nin hb)
          exact .stale h' (.inr ⟨_, _, rfl⟩) h1
      exact ⟨fun _ => key, key⟩
  | @agg vs ds hl hone _ ih =>
    refine ⟨fun h => by simp [Value.oneCell'] at h, .agg (by simpa using hl) hone (fun j v d hv hd => ?_)⟩
    rw [List.getElem?_map] at hd
    cases hj : ds[j]? with
    | none => rw [hj] at hd; cases hd
    | some e => rw [hj] at hd; simp at hd; subst hd; exact (ih j v e hv hj).1 (hone v (List.mem_of_getElem? hv))
  | @fn f vs ds hl hcap hh ih =>
    have key : RepV A' os' w' (.func f #[] vs.toArray) (jk0 J (.fn f ds)) := by
      simp only [jk0]
      split
      · exact .imm .junk
      · rename_i hb
        refine .fn hl hcap (fun j v d hv hd => ?_)
        have h2 := (ih j v d hv hd).2
        have hc := hcap d (List.mem_of_getElem? hd)
        have hbd : jkC J d = false := by
          cases hq : jkC J d
          · rfl
          · rw [List.any_eq_false] at hb
            exact absurd hq (hb d (List.mem_of_getElem? hd))
        cases d
        case lp q o =>
          have e1 : J.contains q = false := hbd
          simp only [jkT, jk0, e1] at h2
          exact h2
        case fn g cs =>
          have : cs = [] := by cases cs <;> simp_all [isCap, plainCap]
          subst this
          exact h2
        all_goals first | exact h2 | (simp [isCap, plainCap] at hc)
    exact ⟨fun _ => key, key⟩
  | @tup vs ds hl hown hh ih =>
    refine ⟨fun h1 => by simp [Value.oneCell'] at h1, .tup (by simpa using hl) (fun j v d hv hd => ?_) (fun j v d hv hd => ?_)⟩
    · rw [List.getElem?_map] at hd
      cases hj : ds[j]? with
      | none => rw [hj] at hd; cases hd
      | some e =>
        rw [hj] at hd
        simp at hd
        subst hd
        rcases hown j v e hv hj with ho | ho
        · cases e <;> simp [isOwn] at ho
          simp only [jk0]
          split
          · exact .inr .junk
          · exact .inl rfl
        · exact .inr (himm ho).1
    · rw [List.getElem?_map] at hd
      cases hj : ds[j]? with
      | none => rw [hj] at hd; cases hd
      | some e =>
        rw [hj] at hd
        simp at hd
        subst hd
        rcases hown j v e hv hj with ho | ho
        · have h2 := hh j v e hv hj
          cases e <;> simp [isOwn] at ho
          exact (ih j v _ hv hj).1 h2.own_inv.1
        · exact .imm (himm ho).1
  | wh _ h0 ih => exact ⟨fun h1 => .wh (fun hb => (ih hb).1 h1) h0, .wh (fun hb => (ih hb).2) h0⟩
end
end Go.Lift

namespace Go.Lift
open Go

section
variable {P : Program} {tt : TT} {A0 : Nat → Prop} {w0 : Home} {n : Nat} {os : Objs} {s : DS} {a : Act} {w : World} {o : Oper} {K : DS → Prop} {A : Nat → Prop}

theorem ole_mvO_dead {o ob : LObj} {ρ : Nat → Nat} (h : ole o (mvO ρ ob)) (hd : ob ≠ .dead) (hg : ∀ ds, ob ≠ .gh ds) : o ≠ .dead := by
  cases ob with
  | dead => exact absurd rfl hd
  | gh ds => exact absurd rfl (hg ds)
  | gone => cases h; simp [mvO]
  | row e sz es => rw [ole_row' h]; simp
  | cells t cs => obtain ⟨_, rfl, _⟩ := ole_cells' h; simp
theorem noGh_get : ∀ {L : List LObj} {k : Nat} {o : LObj}, noGh L = true → L[k]? = some o → ∀ ds, o ≠ .gh ds
  | [], k, o, _, h, _ => by simp at h
  | x :: r, 0, o, hn, h, ds => by
    simp at h
    subst h
    intro e
    subst e
    simp [noGh] at hn
  | x :: r, k + 1, o, hn, h, ds => by
    have : noGh r = true := by cases x <;> simp [noGh] at hn <;> exact hn
    exact noGh_get (k := k) this (by simpa using h) ds
theorem keptOk_get : ∀ {ks : List Bool} {L L' : List LObj} {k : Nat}, keptOk ks L L' = true → ks.length = L.length ∧ L.length ≤ L'.length ∧ (∀ o o', ks[k]? = some true → L[k]? = some o → L'[k]? = some o' → sameKind o o' = true)
  | [], [], L', k, _ => ⟨rfl, by simp, fun o o' h => by simp at h⟩
  | [], _ :: _, L', k, h => by simp [keptOk] at h
  | _ :: _, [], L', k, h => by simp [keptOk] at h
  | _ :: _, _ :: _, [], k, h => by simp [keptOk] at h
  | b :: ks, o1 :: L, o2 :: L', k, h => by
    simp only [keptOk, Bool.and_eq_true] at h
    obtain ⟨i1, i2, i3⟩ := keptOk_get (k := k - 1) h.2
    refine ⟨by simp [i1], by simp; omega, fun o o' h1 h2 h3 => ?_⟩
    cases k with
    | zero =>
      simp at h1 h2 h3
      subst h1; subst h2; subst h3
      simpa using h.1
    | succ k => exact i3 o o' (by simpa using h1) (by simpa using h2) (by simpa using h3)
theorem objsM_get {loc : List LObj} {ρ : Nat → Nat} : ∀ {pass : List Nat} {L : List LObj}, objsM loc ρ pass L → pass.length = L.length ∧ ∀ (k i : Nat) o, pass[k]? = some i → L[k]? = some o → ole (lget loc i) (mvO ρ o)
  | [], [], _ => ⟨rfl, fun k i o h => by simp at h⟩
  | [], _ :: _, h => h.elim
  | _ :: _, [], h => h.elim
  | i :: r, o :: r', h => by
    obtain ⟨h1, h2⟩ := objsM_get h.2
    refine ⟨by simp [h1], fun k i' o' hi ho => ?_⟩
    cases k with
    | zero => simp at hi ho; subst hi; subst ho; exact h.1
    | succ k => exact h2 k i' o' (by simpa using hi) (by simpa using ho)
theorem notKept_mem : ∀ {pass : List Nat} {ks : List Bool} {k i : Nat}, ks.length = pass.length → pass[k]? = some i → ks[k]? ≠ some true → i ∈ notKept pass ks
  | [], ks, k, i, _, h, _ => by simp at h
  | p :: r, [], k, i, hl, _, _ => by simp at hl
  | p :: r, b :: ks, 0, i, hl, h, hk => by
    simp at h hk
    subst h
    cases b <;> simp at hk
    simp [notKept]
  | p :: r, b :: ks, k + 1, i, hl, h, hk => by
    have := notKept_mem (k := k) (ks := ks) (pass := r) (by simpa using hl) (by simpa using h) (by simpa using hk)
    cases b
    · simp [notKept, this]
    · simpa [notKept] using this
theorem voidE_look {J : List Nat} {e : List (Nat × DV)} (t : Nat) : look (voidE J e) t = if J = [] then look e t else jkT J (look e t) := by
  unfold voidE
  split
  · simp
  · rename_i h
    rw [if_neg (fun e => h e), look_mapE _ rfl]
theorem setAll_oth : ∀ (tgt : List Nat) (l L : List LObj) (i : Nat), i ∉ tgt → (setAll l tgt L)[i]? = l[i]?
  | [], l, L, i, _ => by cases L <;> rfl
  | j :: r, l, [], i, _ => rfl
  | j :: r, l, o :: L, i, h => by
    simp only [List.mem_cons, not_or] at h
    rw [setAll, setAll_oth r _ _ _ h.2, lset_eq, List.getElem?_set_ne (fun e => h.1 e.symm)]
theorem setAll_get : ∀ (tgt : List Nat) (l L : List LObj) (k : Nat), tgt.Nodup → tgt.length = L.length → (∀ i ∈ tgt, i < l.length) → k < tgt.length → (setAll l tgt L)[nth tgt k]? = L[k]?
  | [], l, L, k, _, _, _, h => by simp at h
  | j :: r, l, [], k, _, h, _, _ => by simp at h
  | j :: r, l, o :: L, k, hn, hl, hi, hk => by
    obtain ⟨h1, h2⟩ := List.nodup_cons.1 hn
    cases k with
    | zero =>
      rw [setAll]
      show (setAll (lset l j o) r L)[j]? = _
      rw [setAll_oth r _ _ _ h1, lset_eq, List.getElem?_set_self (hi j (by simp))]
      rfl
    | succ k =>
      rw [setAll]
      show (setAll (lset l j o) r L)[nth r k]? = _
      rw [setAll_get r _ L k h2 (by simpa using hl) (fun i hm => by rw [lset_eq]; simpa using hi i (by simp [hm])) (by simpa using hk)]
      rfl
theorem jk0_nil : ∀ d : DV, jk0 [] d = d
  | .wh b d => by simp only [jk0]; rw [jk0_nil d]
  | .fn f caps => by
    have : caps.any (jkC []) = false := by
      rw [List.any_eq_false]
      intro c _
      cases c <;> simp [jkC]
    simp only [jk0, this]
  | .own _ | .lp _ _ | .ap _ _ | .rp _ _ _ => by simp [jk0]
  | .v _ | .lst _ _ _ | .agg _ | .tup _ | .ip _ | .nl | .junk => rfl
theorem jkT_nil : ∀ d : DV, jkT [] d = d
  | .wh b d => by simp only [jkT]; rw [jkT_nil d]
  | .agg cs => by
    simp only [jkT]
    congr 1
    conv => rhs; rw [← List.map_id cs]
    exact List.map_congr_left (fun c _ => jk0_nil c)
  | .tup cs => by
    simp only [jkT]
    congr 1
    conv => rhs; rw [← List.map_id cs]
    exact List.map_congr_left (fun c _ => jk0_nil c)
  | .fn f caps => jk0_nil _
  | .own _ | .lp _ _ | .ap _ _ | .rp _ _ _ => jk0_nil _
  | .v _ | .lst _ _ _ | .ip _ | .nl | .junk => rfl
theorem jk_nil {d : DV} : jk0 [] d = d ∧ jkT [] d = d := ⟨jk0_nil d, jkT_nil d⟩
theorem voidL_get {J : List Nat} {l : List LObj} {i : Nat} : (voidL J l)[i]? = (l[i]?).map (mapO (jk0 J)) := by
  unfold voidL
  split
  · have : (mapO (jk0 [])) = id := by
      funext o
      cases o with
      | cells t cs =>
        have : cs.map (jk0 []) = cs := by
          conv => rhs; rw [← List.map_id cs]
          exact List.map_congr_left (fun c _ => jk_nil.1)
        simp [mapO, this]
      | gh cs =>
        have : cs.map (jk0 []) = cs := by
          conv => rhs; rw [← List.map_id cs]
          exact List.map_congr_left (fun c _ => jk_nil.1)
        simp [mapO, this]
      | _ => rfl
    rw [this]
    simp
  · rw [mapL_eq, List.getElem?_map]

theorem callM_core {f : FuncId} {pass news J : List Nat} {L L' : List LObj} {args0 : List DV} {kept : List Bool} {d : DV} {vals : List Value} (h : Rep A0 w0 n os s a w) (hret : RetM P f L args0 kept L' d)
    (hJ : ∀ (k i : Nat), pass[k]? = some i → kept[k]? ≠ some true → i ∈ J ∨ (∃ e sz es, L[k]? = some (.row e sz es)) ∧ L'[k]? = some .gone)
    (hkept : keptOk kept L L' = true) (hgh : noGh L = true) (hnd : (pass ++ news).Nodup) (hlt : ∀ i ∈ pass, i < os.length) (hnew : ∀ i ∈ news, ∃ y, os[i]? = some (y, .dead)) (hlen : L'.length = pass.length + news.length)
    (hbL : bndL L L = true) (hba : args0.all (bnd L) = true) (hobj : objsM s.loc (nth (pass ++ news)) pass L)
    (hl : vals.length = args0.length) (hvals : ∀ (i : Nat) v d, vals[i]? = some v → args0[i]? = some d → RepV (avoidX A0 os []) os w v (mvT (nth (pass ++ news)) d)) :
    Calls P f vals.toArray w fun e w' => ∃ v os', e = .returned v ∧ Rep A0 w0 n os' (afterC s (pass ++ news) J L') a w' ∧ RepV (avoid A0 os') os' w' v (mvT (nth (pass ++ news)) d) := by
  obtain ⟨hpl, hole⟩ := objsM_get hobj
  generalize htg : pass ++ news = tgt at *
  have htl : tgt.length = L'.length := by rw [← htg, hlen]; simp
  have hmt : pass.length ≤ tgt.length := by rw [← htg]; simp
  have hpn : ∀ k, k < pass.length → pass[k]? = some (nth tgt k) := by
    intro k hk
    have h1 := nth_get (l := tgt) (k := k) (by omega)
    rw [← htg, List.getElem?_append_left hk] at h1
    rw [h1, htg]
  have hxe : ∀ b, avoidX A0 os [] b ↔ avoid A0 os b := by
    intro b
    constructor
    · exact avoidX_sub
    · rintro (hb | ⟨i, x, o', hi, hd, hbb⟩)
      · exact .inl hb
      · exact .inr ⟨i, x, o', hi, hd, by simp, hbb⟩
  -- the callee's objects
  let os_c : Objs := (List.range pass.length).map fun k => ((os[nth tgt k]?.map (·.1)).getD .nilFunc, (L[k]?).getD .dead)
  have hcl : os_c.length = pass.length := by simp [os_c]
  have hcget : ∀ k, k < pass.length → ∃ x o ob, os[nth tgt k]? = some (x, o) ∧ L[k]? = some ob ∧ os_c[k]? = some (x, ob) ∧ ole o (mvO (nth tgt) ob) := by
    intro k hk
    have hp := hpn k hk
    have hi := hlt _ (List.mem_of_getElem? hp)
    have ho := List.getElem?_eq_getElem hi
    have hL := List.getElem?_eq_getElem (l := L) (i := k) (by omega)
    refine ⟨os[nth tgt k].1, os[nth tgt k].2, L[k]'(by omega), ho, hL, ?_, ?_⟩
    · simp only [os_c, List.getElem?_map, List.getElem?_range hk, Option.map_some, ho, hL, Option.getD_some]
    · have := hole k _ _ hp hL
      rw [h.loc, lget_eq, List.getElem?_map, ho] at this
      exact this
  have hcof : ∀ {k : Nat} {x : Value} {ob : LObj}, os_c[k]? = some (x, ob) → k < pass.length ∧ L[k]? = some ob ∧ ∃ o, os[nth tgt k]? = some (x, o) ∧ ole o (mvO (nth tgt) ob) := by
    intro k x ob hk
    have hkl : k < pass.length := by have := (List.getElem?_eq_some_iff.1 hk).1; omega
    obtain ⟨x', o, ob', h1, h2, h3, h4⟩ := hcget k hkl
    rw [hk] at h3
    cases h3
    exact ⟨hkl, h2, o, h1, h4⟩
  have hsnd : os_c.map (·.2) = L := by
    apply List.ext_getElem?
    intro k
    rw [List.getElem?_map]
    by_cases hk : k < pass.length
    · obtain ⟨x, o, ob, h1, h2, h3, h4⟩ := hcget k hk
      rw [h3, h2]
      rfl
    · rw [List.getElem?_eq_none (by omega), List.getElem?_eq_none (by omega)]
      rfl
  have hS : Seen A0 os os_c tgt L pass.length := ⟨hcl, hmt, fun k x ob hk => hcof hk, hsnd⟩
  have hlive : ∀ {k : Nat} {ob : LObj} {o : LObj}, L[k]? = some ob → ob ≠ .dead → ole o (mvO (nth tgt) ob) → o ≠ .dead := fun hk hd hle => ole_mvO_dead hle hd (noGh_get hgh hk)
  have hofc : ∀ {b : Nat}, ofOs os_c b → ∃ k x o, k < pass.length ∧ os[nth tgt k]? = some (x, o) ∧ o ≠ .dead ∧ blk x = some b := by
    rintro b ⟨k, x, ob, hk, hd, hb⟩
    obtain ⟨h1, h2, o, h3, h4⟩ := hcof hk
    exact ⟨k, x, o, h1, h3, hlive h2 hd h4, hb⟩
  -- what is shut out
  let A_c : Nat → Prop := avoidX A0 os pass
  have hAlt : ∀ b, A_c b → b < w.heap.size := by
    rintro b (hb | ⟨i, x, o', hi, hd, _, hbb⟩)
    · exact h.a0_lt hb
    · exact ((h.obj _ _ _ hi).blk_ge hd hbb).2
  have hAout : ∀ b, A_c b → ¬ ofOs os_c b := by
    intro b hA hof
    obtain ⟨k, x, o, hk, ho, hod, hbb⟩ := hofc hof
    rcases hA with hb | ⟨i, y, o', hi, hd, hnp, hb2⟩
    · exact h.a0 b hb ((h.obj _ _ _ ho).blk_ge hod hbb).1
    · have := h.inj i (nth tgt k) _ _ _ _ b hi ho hd hod hb2 hbb
      exact hnp (by rw [this]; exact List.mem_of_getElem? (hpn k hk))
  have hav1 : ∀ b, avoid A_c os_c b → avoid A0 os b := by
    rintro b (hb | hof)
    · exact avoidX_sub hb
    · obtain ⟨k, x, o, hk, ho, hod, hbb⟩ := hofc hof
      exact .inr ⟨_, _, _, ho, hod, hbb⟩
  have k1 : Keeps (avoid A0 os) (avoid A_c os_c) w w := Keeps.less hav1
  have k1x : Keeps (avoidX A0 os []) (avoid A_c os_c) w w := Keeps.less (fun b hb => (hxe b).2 (hav1 b hb))
  have hlaid : Laid A_c os_c L w := by
    refine ⟨hsnd, fun k x ob hk => ?_, fun i j x o y o' b hi hj d1 d2 b1 b2 => ?_, hAout⟩
    · obtain ⟨hkl, hLk, o, ho, hle⟩ := hcof hk
      have hob := h.obj _ _ _ ho
      cases ob with
      | dead => exact trivial
      | gone =>
        have : o = .gone := by cases hle; rfl
        subst this
        exact hob
      | gh ds => exact absurd rfl (noGh_get hgh hLk ds)
      | row e sz es =>
        rw [ole_row' hle] at hob
        obtain ⟨_, xs, hown, hsz, hrl, hone, hr⟩ := hob
        exact ⟨fun _ _ => .inr trivial, xs, hown, hsz, hrl, hone, fun k' j' r d h1 h2 => by
          obtain ⟨v, hv, hi⟩ := hr k' j' r d h1 h2
          exact ⟨v, hv, hi.keep k1⟩⟩
      | cells t cs =>
        obtain ⟨cs', rfl, hcl', hcs⟩ := ole_cells' hle
        obtain ⟨g, arr, rfl, hB, hh, hs, hone, hrr⟩ := hob
        refine ⟨g, arr, rfl, .inr trivial, hh, by omega, hone, fun j v d hv hd => ?_⟩
        have hjl := (List.getElem?_eq_some_iff.1 hd).1
        have hc' := List.getElem?_eq_getElem (l := cs') (i := j) (by omega)
        exact unren0 hS k1 (bndL_get hbL hLk d (List.mem_of_getElem? hd)) ((hrr j v _ hv hc').less (hcs j _ d hc' hd))
    · obtain ⟨hk1, hL1, o1, ho1, hle1⟩ := hcof hi
      obtain ⟨hk2, hL2, o2, ho2, hle2⟩ := hcof hj
      have := h.inj _ _ _ _ _ _ b ho1 ho2 (hlive hL1 d1 hle1) (hlive hL2 d2 hle2) b1 b2
      exact nth_inj hnd (by omega) (by omega) this
  have hargs : RepAll (avoid A_c os_c) os_c w vals args0 := by
    have gen : ∀ (vs : List Value) (ds : List DV), vs.length = ds.length → (∀ (i : Nat) v d, vs[i]? = some v → ds[i]? = some d → RepV (avoid A_c os_c) os_c w v d) → RepAll (avoid A_c os_c) os_c w vs ds := by
      intro vs
      induction vs with
      | nil => intro ds hl _; cases ds <;> first | trivial | simp at hl
      | cons v vs ih =>
        intro ds hl hp
        cases ds with
        | nil => simp at hl
        | cons d ds => exact ⟨hp 0 v d rfl rfl, ih ds (by simpa using hl) (fun i v d hv hd => hp (i + 1) v d (by simpa using hv) (by simpa using hd))⟩
    refine gen vals args0 hl (fun i v d hv hd => ?_)
    simp only [List.all_eq_true] at hba
    exact unrenT hS k1x (hba d (List.mem_of_getElem? hd)) (hvals i v d hv hd)
  refine (hret.2 A_c w os_c vals hAlt hlaid hargs).mono fun e w' he => ?_
  obtain ⟨v, os'_c, rfl, hlaid', hrv, hgr, hblk, hkp⟩ := he
  have hqlen : os'_c.length = tgt.length := by rw [htl, ← hlaid'.loc]; simp
  have hgetc : ∀ {k : Nat} {x : Value} {ob : LObj}, os'_c[k]? = some (x, ob) → k < tgt.length ∧ L'[k]? = some ob := by
    intro k x ob hk
    refine ⟨by have := (List.getElem?_eq_some_iff.1 hk).1; omega, ?_⟩
    rw [← hlaid'.loc, List.getElem?_map, hk]
    rfl
  -- the objects behind the call
  let os' : Objs := (List.range os.length).map fun i => if i ∈ tgt then (match os'_c[tgt.idxOf i]? with
    | some p => (p.1, mvO (nth tgt) p.2)
    | none => (.nilFunc, .dead)) else match os[i]? with
    | some p => (p.1, mapO (jk0 J) p.2)
    | none => (.nilFunc, .dead)
  have htlt : ∀ i ∈ tgt, i < os.length := by
    intro i hi
    rw [← htg] at hi
    rcases List.mem_append.1 hi with hi | hi
    · exact hlt i hi
    · obtain ⟨y, hy⟩ := hnew i hi
      exact (List.getElem?_eq_some_iff.1 hy).1
  have hmem : ∀ {k : Nat}, k < tgt.length → nth tgt k ∈ tgt := fun hk => List.mem_of_getElem? (nth_get hk)
  have hidx : ∀ {k : Nat}, k < tgt.length → tgt.idxOf (nth tgt k) = k := by
    intro k hk
    have hm := hmem hk
    have h1 := List.idxOf_lt_length_of_mem hm
    have h2 : tgt[tgt.idxOf (nth tgt k)]? = some (nth tgt k) := by rw [List.getElem?_eq_getElem h1]; simp
    exact nodup_get hnd h2 (nth_get hk)
  have ht' : ∀ {k : Nat} {x : Value} {ob : LObj}, os'_c[k]? = some (x, ob) → os'[nth tgt k]? = some (x, mvO (nth tgt) ob) := by
    intro k x ob hk
    obtain ⟨hkl, _⟩ := hgetc hk
    have hm := hmem hkl
    simp only [os', List.getElem?_map, List.getElem?_range (htlt _ hm), Option.map_some, if_pos hm, hidx hkl, hk]
  have ho' : ∀ i, i ∉ tgt → os'[i]? = (os[i]?).map fun p => (p.1, mapO (jk0 J) p.2) := by
    intro i hi
    by_cases hl : i < os.length
    · simp only [os', List.getElem?_map, List.getElem?_range hl, Option.map_some, if_neg hi, List.getElem?_eq_getElem hl]
    · have h1 : os'[i]? = none := List.getElem?_eq_none (by simp [os']; omega)
      rw [h1, List.getElem?_eq_none (by omega)]
      rfl
  have hget : ∀ {i : Nat} {x : Value} {o' : LObj}, os'[i]? = some (x, o') → (∃ k ob, k < tgt.length ∧ i = nth tgt k ∧ os'_c[k]? = some (x, ob) ∧ o' = mvO (nth tgt) ob) ∨ (i ∉ tgt ∧ ∃ o1, os[i]? = some (x, o1) ∧ o' = mapO (jk0 J) o1) := by
    intro i x o' hi
    by_cases hm : i ∈ tgt
    · have h1 := List.idxOf_lt_length_of_mem hm
      have h2 : nth tgt (tgt.idxOf i) = i := by
        have h3 : tgt[tgt.idxOf i]? = some i := by rw [List.getElem?_eq_getElem h1]; simp
        have h4 := nth_get h1
        rw [h3] at h4
        exact (Option.some.inj h4).symm
      have h5 := List.getElem?_eq_getElem (l := os'_c) (i := tgt.idxOf i) (by omega)
      rcases hp : (os'_c[tgt.idxOf i]'(by omega)) with ⟨y, ob⟩
      rw [hp] at h5
      have h6 := ht' h5
      rw [h2, hi] at h6
      cases h6
      exact .inl ⟨_, _, h1, h2.symm, h5, rfl⟩
    · rw [ho' i hm] at hi
      cases h1 : os[i]? with
      | none => rw [h1] at hi; cases hi
      | some p => rw [h1] at hi; cases hi; exact .inr ⟨hm, _, rfl, rfl⟩
  have hdd : ∀ o1 : LObj, mapO (jk0 J) o1 ≠ .dead → o1 ≠ .dead := by intro o1; cases o1 <;> simp [mapO]
  have hmvd : ∀ ob : LObj, mvO (nth tgt) ob ≠ .dead → ob ≠ .dead := by intro ob; cases ob <;> simp [mvO]
  have hnpass : ∀ {i : Nat}, i ∉ tgt → i ∉ pass := fun hi hp => hi (by rw [← htg]; exact List.mem_append.2 (.inl hp))
  -- blocks of the objects behind the call
  have hofnew : ∀ {b : Nat}, ofOs os'_c b → (∃ k x o, k < pass.length ∧ os[nth tgt k]? = some (x, o) ∧ o ≠ .dead ∧ blk x = some b) ∨ w.heap.size ≤ b := fun hb => (hblk _ hb).imp hofc id
  have hav : ∀ b, b < w.heap.size → avoid A0 os' b → avoid A0 os b := by
    rintro b hbl (hb | ⟨i, x, o', hi, hd, hbb⟩)
    · exact .inl hb
    · rcases hget hi with ⟨k, ob, hk, rfl, hc, rfl⟩ | ⟨_, o1, h1, rfl⟩
      · rcases hofnew ⟨k, x, ob, hc, hmvd _ hd, hbb⟩ with ⟨_, y, o, _, h2, h3, h4⟩ | h2
        · exact .inr ⟨_, _, _, h2, h3, h4⟩
        · omega
      · exact .inr ⟨_, _, _, h1, hdd _ hd, hbb⟩
  have hsame : ∀ b, b < w.heap.size → ¬ ofOs os_c b → w'.heap[b]? = w.heap[b]? := hgr.block
  have kp : Keeps (avoid A0 os) (avoid A0 os') w w' := ⟨hgr.size, hav, fun b hb hn => hsame b hb (fun hof => hn (by
    obtain ⟨k, x, o, _, h2, h3, h4⟩ := hofc hof
    exact .inr ⟨_, _, _, h2, h3, h4⟩))⟩
  have kc : Keeps (avoid A_c os'_c) (avoid A0 os') w' w' := Keeps.less (by
    rintro b (hb | ⟨i, x, o', hi, hd, hbb⟩)
    · exact .inl (.inl hb)
    · rcases hget hi with ⟨k, ob, hk, rfl, hc, rfl⟩ | ⟨hni, o1, h1, rfl⟩
      · exact .inr ⟨k, x, ob, hc, hmvd _ hd, hbb⟩
      · exact .inl (.inr ⟨i, x, o1, h1, hdd _ hd, hnpass hni, hbb⟩))
  have hB : Back os os' os'_c tgt J tgt.length := ⟨hqlen, rfl, hnd, fun k x ob hk => ht' hk, ho'⟩
  obtain ⟨hks, hLL, _⟩ := keptOk_get (k := 0) hkept
  have hkeep : ∀ (i : Nat) x o, i ∉ J → os[i]? = some (x, o) → o ≠ .dead → (∃ e sz es, o = .row e sz es) ∨ (∃ t cs, o = .cells t cs) ∨ o = .gone → ∃ y o', os'[i]? = some (y, o') ∧ (y = x ∧ kindIs o o' ∨ (∃ e sz es, o = .row e sz es) ∧ o' = .gone) := by
    intro i x o hi ho hd hkind
    by_cases hm : i ∈ tgt
    · rw [← htg] at hm
      rcases List.mem_append.1 hm with hm | hm
      · obtain ⟨k, hk, rfl⟩ := List.getElem_of_mem hm
        have hpk := hpn k hk
        rw [List.getElem?_eq_getElem hk] at hpk
        have hpk := Option.some.inj hpk
        by_cases hkt : kept[k]? = some true
        case neg =>
          rcases hJ k _ (List.getElem?_eq_getElem hk) hkt with hin | ⟨⟨e, sz, es, hrow⟩, hgone⟩
          · exact absurd hin hi
          · obtain ⟨x', o2, ob, h1, h2, h3, h4⟩ := hcget k hk
            rw [hpk] at ho
            rw [h1] at ho
            cases ho
            rw [hrow] at h2
            cases h2
            have hkq : k < os'_c.length := by omega
            have hc5 := List.getElem?_eq_getElem hkq
            rcases hp5 : os'_c[k] with ⟨y5, ob5⟩
            rw [hp5] at hc5
            have hL5 := (hgetc hc5).2
            rw [hgone] at hL5
            cases hL5
            rw [hpk]
            exact ⟨y5, .gone, ht' hc5, .inr ⟨⟨e, sz, es, ole_row' h4⟩, rfl⟩⟩
        obtain ⟨x', o2, ob, h1, h2, h3, h4⟩ := hcget k hk
        rw [hpk] at ho
        rw [h1] at ho
        cases ho
        obtain ⟨o', hc'⟩ := hkp k x ob hkt h3
        obtain ⟨hkl, hL'⟩ := hgetc hc'
        have hsk := (keptOk_get (k := k) hkept).2.2 ob o' hkt h2 hL'
        rw [hpk]
        refine ⟨_, _, ht' hc', .inl ⟨rfl, ?_⟩⟩
        cases ob <;> cases o' <;> simp [sameKind] at hsk
        · obtain ⟨cs', rfl, _⟩ := ole_cells' h4
          simpa [kindIs, mvO] using hsk
        · rw [ole_row' h4]
          simpa [kindIs, mvO] using hsk
      · obtain ⟨y, hy⟩ := hnew i hm
        rw [ho] at hy
        cases hy
        exact absurd rfl hd
    · refine ⟨x, mapO (jk0 J) o, by rw [ho' i hm, ho]; rfl, .inl ⟨rfl, ?_⟩⟩
      cases o <;> simp [kindIs, mapO]
  have hmine : ∀ {b : Nat}, ofOs os_c b → w0.mine b := by
    intro b hof
    obtain ⟨k, x, o, _, h2, h3, h4⟩ := hofc hof
    exact ((h.obj _ _ _ h2).blk_ge h3 h4).1
  have hosl : os'.length = os.length := by simp [os']
  refine ⟨v, os', rfl, ⟨h.size, h.defers, ⟨hgr.os.trans h.gr.os, hgr.tape.trans h.gr.tape, hgr.output.trans h.gr.output, Nat.le_trans h.gr.size hgr.size, fun b hb hnm => ?_⟩, h.a0, ?_, fun t => ?_, fun i x o' hi => ?_, fun i j x o y o' b hi hj d1 d2 b1 b2 => ?_⟩, (reren hB kc hrv).2⟩
  · refine (hsame b (Nat.lt_of_lt_of_le hb h.gr.size) (fun hof => ?_)).trans (h.gr.block b hb hnm)
    rcases hmine hof with h1 | h1
    · omega
    · exact hnm h1
  · show setAll (voidL J s.loc) tgt (L'.map (mvO (nth tgt))) = _
    apply List.ext_getElem?
    intro i
    rw [List.getElem?_map]
    have hvl : (voidL J s.loc).length = os.length := by
      have : s.loc.length = os.length := h.len
      unfold voidL
      split
      · exact this
      · rw [mapL_eq]; simpa using this
    by_cases hm : i ∈ tgt
    · have h1 := List.idxOf_lt_length_of_mem hm
      have h2 : nth tgt (tgt.idxOf i) = i := by
        have h3 : tgt[tgt.idxOf i]? = some i := by rw [List.getElem?_eq_getElem h1]; simp
        have h4 := nth_get h1
        rw [h3] at h4
        exact (Option.some.inj h4).symm
      have h5 := List.getElem?_eq_getElem (l := os'_c) (i := tgt.idxOf i) (by omega)
      rcases hp : (os'_c[tgt.idxOf i]'(by omega)) with ⟨y, ob⟩
      rw [hp] at h5
      have h6 := ht' h5
      rw [h2] at h6
      rw [h6]
      have h7 := setAll_get tgt (voidL J s.loc) (L'.map (mvO (nth tgt))) (tgt.idxOf i) hnd (by simp [htl]) (fun q hq => by rw [hvl]; exact htlt q hq) h1
      rw [h2] at h7
      rw [h7, List.getElem?_map, (hgetc h5).2]
      rfl
    · rw [setAll_oth _ _ _ _ hm, ho' i hm, voidL_get, h.loc, List.getElem?_map]
      cases os[i]? <;> rfl
  · show RepV _ _ _ _ (look (voidE J s.env) t)
    rw [voidE_look]
    have hv := (void0 (J := J) kp hkeep (h.env t)).2
    split
    · rename_i hj
      subst hj
      rwa [jk_nil.2] at hv
    · exact hv
  · rcases hget hi with ⟨k, ob, hk, rfl, hc, rfl⟩ | ⟨hni, o1, h1, rfl⟩
    · have hobc := hlaid'.obj k x ob hc
      have hmb : ∀ b, ob ≠ .dead → blk x = some b → w0.mine b := by
        intro b hd hbb
        rcases hblk b ⟨k, x, ob, hc, hd, hbb⟩ with h1 | h1
        · exact hmine h1
        · exact Home.mine_new h.gr h1
      cases ob with
      | dead => exact trivial
      | gone => exact hobc
      | gh ds => exact trivial
      | row e sz es =>
        obtain ⟨_, xs, hown, hsz, hrl, hone, hr⟩ := hobc
        exact ⟨fun b hbb => hmb b (by simp) hbb, xs, hown, hsz, hrl, hone, fun k' j' r d h1 h2 => by
          obtain ⟨v, hv, hi⟩ := hr k' j' r d h1 h2
          exact ⟨v, hv, hi.keep kc⟩⟩
      | cells t cs =>
        obtain ⟨g, arr, rfl, hB', hh, hs, hone, hrr⟩ := hobc
        refine ⟨g, arr, rfl, hmb g (by simp) rfl, hh, by simpa using hs, hone, fun j v d hv hd => ?_⟩
        rw [List.getElem?_map] at hd
        cases hj : cs[j]? with
        | none => rw [hj] at hd; cases hd
        | some d' =>
          rw [hj] at hd
          simp at hd
          subst hd
          refine (reren hB kc (hrr j v d' hv hj)).1 (hone v ?_)
          rw [← Array.getElem?_toList] at hv
          exact List.mem_of_getElem? hv
    · have hob := h.obj _ _ _ h1
      have hblock : ∀ b, o1 ≠ .dead → blk x = some b → w'.heap[b]? = w.heap[b]? := by
        intro b hd hbb
        refine hsame b ((hob.blk_ge hd hbb).2) (fun hof => ?_)
        obtain ⟨k, y, o, hk, h2, h3, h4⟩ := hofc hof
        have := h.inj i (nth tgt k) _ _ _ _ b h1 h2 hd h3 hbb h4
        exact hni (by rw [this]; exact hmem (by omega))
      cases o1 with
      | dead => exact trivial
      | gone => exact hob
      | gh ds =>
        obtain ⟨e1, e2, e3, e4⟩ := hob
        refine ⟨e1, by simpa using e2, e3, fun i' v d hv hd => ?_⟩
        rw [List.getElem?_map] at hd
        cases hj : ds[i']? with
        | none => rw [hj] at hd; cases hd
        | some d' =>
          rw [hj] at hd
          simp at hd
          subst hd
          exact (void0 (J := J) kp hkeep (e4 i' v d' hv hj)).1 (e3 v (List.mem_of_getElem? hv))
      | cells t cs =>
        obtain ⟨g, arr, rfl, hB', hh, hs, hone, hrr⟩ := hob
        refine ⟨g, arr, rfl, hB', (hblock g (by simp) rfl).trans hh, by simpa using hs, hone, fun j v d hv hd => ?_⟩
        rw [List.getElem?_map] at hd
        cases hj : cs[j]? with
        | none => rw [hj] at hd; cases hd
        | some d' =>
          rw [hj] at hd
          simp at hd
          subst hd
          refine (void0 (J := J) kp hkeep (hrr j v d' hv hj)).1 (hone v ?_)
          rw [← Array.getElem?_toList] at hv
          exact List.mem_of_getElem? hv
      | row e sz es =>
        obtain ⟨hmine', xs, hown, hsz, hrl, hone, hr⟩ := hob
        refine ⟨hmine', xs, ⟨hown.1, ?_⟩, hsz, hrl, hone, fun k' j' r d h1 h2 => ?_⟩
        · rcases hown.2 with hn | ⟨g, cap, cur, rfl, hB', hh, rest⟩
          · exact .inl hn
          · exact .inr ⟨g, cap, cur, rfl, hB', (hblock g (by simp) rfl).trans hh, rest⟩
        · obtain ⟨v, hv, hi⟩ := hr k' j' r d h1 h2
          exact ⟨v, hv, hi.keep kp⟩
  · have mix : ∀ {i j : Nat} {x y : Value} {k : Nat} {ob o2 : LObj}, k < tgt.length → os'_c[k]? = some (x, ob) → ob ≠ .dead → blk x = some b → j ∉ tgt → os[j]? = some (y, o2) → o2 ≠ .dead → blk y = some b → False := by
      intro i j x y k ob o2 hk hc hd hbx hj ho2 hd2 hby
      rcases hofnew ⟨k, x, ob, hc, hd, hbx⟩ with ⟨k', z, o, hk', h2, h3, h4⟩ | h2
      · have := h.inj j (nth tgt k') _ _ _ _ b ho2 h2 hd2 h3 hby h4
        exact hj (by rw [this]; exact hmem (by omega))
      · have := ((h.obj _ _ _ ho2).blk_ge hd2 hby).2
        omega
    rcases hget hi with ⟨k1, ob1, hk1, rfl, hc1, rfl⟩ | ⟨hn1, o1, h1, rfl⟩ <;> rcases hget hj with ⟨k2, ob2, hk2, rfl, hc2, rfl⟩ | ⟨hn2, o2, h2, rfl⟩
    · rw [hlaid'.inj k1 k2 _ _ _ _ b hc1 hc2 (hmvd _ d1) (hmvd _ d2) b1 b2]
    · exact (mix (i := 0) hk1 hc1 (hmvd _ d1) b1 hn2 h2 (hdd _ d2) b2).elim
    · exact (mix (i := 0) hk2 hc2 (hmvd _ d2) b2 hn1 h1 (hdd _ d1) b1).elim
    · exact h.inj _ _ _ _ _ _ b h1 h2 (hdd _ d1) (hdd _ d2) b1 b2
end
end Go.Lift
