/- A data-level logic for the model: what a body does to data; its soundness (part LiftF). No conditions. -/
import Derived.Test.YtmfgjjnmfahcjaaLiftE
set_option linter.unusedSimpArgs false
set_option linter.unusedVariables false
namespace Go.Lift
open Go

/-! # Rows: make, append, copy -/
structure RowRep (A : Nat → Prop) (w : World) (xs : List Value) (es : List (List DV)) (sz : Nat) : Prop where
  len : xs.length = es.length * sz
  rows : ∀ r ∈ es, r.length = sz
  one : ∀ v ∈ xs, v.oneCell' = true
  rep : ∀ (k j : Nat) r d, es[k]? = some r → r[j]? = some d → ∃ v, xs[k * sz + j]? = some v ∧ Imm A w v d
theorem RowRep.keep {A A' : Nat → Prop} {w w' : World} {xs : List Value} {es : List (List DV)} {sz : Nat} (h : RowRep A w xs es sz) (k : Keeps A A' w w') : RowRep A' w' xs es sz :=
  ⟨h.len, h.rows, h.one, fun k' j r d h1 h2 => by obtain ⟨v, hv, hi⟩ := h.rep k' j r d h1 h2; exact ⟨v, hv, hi.keep k⟩⟩
theorem RowRep.append {A : Nat → Prop} {w : World} {xs ys : List Value} {es fs : List (List DV)} {sz : Nat} (h : RowRep A w xs es sz) (h' : RowRep A w ys fs sz) : RowRep A w (xs ++ ys) (es ++ fs) sz := by
  refine ⟨by rw [List.length_append, List.length_append, h.len, h'.len, Nat.add_mul], fun r hr => ?_, fun v hv => ?_, fun k j r d hk hj => ?_⟩
  · rcases List.mem_append.1 hr with hr | hr
    · exact h.rows r hr
    · exact h'.rows r hr
  · rcases List.mem_append.1 hv with hv | hv
    · exact h.one v hv
    · exact h'.one v hv
  · by_cases hlt : k < es.length
    · rw [List.getElem?_append_left hlt] at hk
      obtain ⟨v, hv, hi⟩ := h.rep k j r d hk hj
      exact ⟨v, by rw [List.getElem?_append_left (List.getElem?_eq_some_iff.1 hv).1]; exact hv, hi⟩
    · rw [List.getElem?_append_right (by omega)] at hk
      obtain ⟨v, hv, hi⟩ := h'.rep _ j r d hk hj
      have hle : es.length * sz ≤ k * sz := Nat.mul_le_mul_right _ (by omega)
      refine ⟨v, ?_, hi⟩
      rw [List.getElem?_append_right (by rw [h.len]; omega), h.len]
      rw [Nat.sub_mul] at hv
      rw [← hv]
      congr 1
      omega
theorem RowRep.nil {A : Nat → Prop} {w : World} {sz : Nat} : RowRep A w [] [] sz := ⟨by simp, by simp, by simp, by simp⟩

section
variable {P : Program} {tt : TT} {A0 : Nat → Prop} {w0 : Home} {n : Nat} {os : Objs} {s : DS} {a : Act} {w : World} {o : Oper} {K : DS → Prop} {A : Nat → Prop} {B : Nat} {H : Home}

theorem row_obj {w' : World} {x : Value} {e : TypeId} {sz : Nat} {es : List (List DV)} {xs : List Value} (hmine : ∀ b, blk x = some b → H.mine b) (hown : w'.ownsRow 0 e sz x es.length xs) (hsz : 0 < sz) (hr : RowRep A w' xs es sz) : ObjOk A os H w' x (.row e sz es) :=
  ⟨hmine, xs, hown, hsz, hr.rows, hr.one, hr.rep⟩
theorem row_mine {x : Value} {e : TypeId} {sz : Nat} {es : List (List DV)} (h : ObjOk A os H w x (.row e sz es)) : ∀ b, blk x = some b → H.mine b := h.1
theorem obj_row {x : Value} {e : TypeId} {sz : Nat} {es : List (List DV)} (h : ObjOk A os H w x (.row e sz es)) : ∃ xs, w.ownsRow 0 e sz x es.length xs ∧ 0 < sz ∧ RowRep A w xs es sz := by
  obtain ⟨_, xs, hown, hsz, hr, hone, hrep⟩ := h
  exact ⟨xs, hown, hsz, ⟨hown.1, hr, hone, hrep⟩⟩

/-- a list's elements as cells -/
theorem lst_cells {x : Value} {sz : Nat} {es : List (List DV)} {f : Bool} (hsz : 0 < sz) (h : Imm A w x (.lst sz es f)) : (x = .slice none 0 0 ∧ es = []) ∨
    ∃ ad c xs, x = .slice (some ad) es.length c ∧ es.length ≤ c ∧ c ≤ maxLen ∧ (f = true → c = es.length) ∧ (es ≠ [] → ¬ A ad.block) ∧ (es ≠ [] → ad.block < w.heap.size) ∧ RowRep A w xs es sz ∧ ∀ (j : Nat) v, xs[j]? = some v → w.cell? (ad.add j) = some v := by
  cases h with
  | nil => exact .inl ⟨rfl, rfl⟩
  | @lst ad n c _ _ _ xs hn hc hm hf hrs hA hb hone hcell hx =>
    subst hn
    obtain ⟨vs, hl, hv⟩ := list_of (Q := fun j v => w.cell? (ad.add j) = some v ∧ v.oneCell' = true ∧ ∀ d r, es[j / sz]? = some r → r[j % sz]? = some d → Imm A w v d) (es.length * sz) (fun j hj => by
      have hq : j / sz < es.length := (Nat.div_lt_iff_lt_mul hsz).2 hj
      have hr := hrs _ (List.getElem_mem hq)
      have hm := Nat.mod_lt j hsz
      have h1 := List.getElem?_eq_getElem hq
      have h2 : es[j / sz][j % sz]? = some (es[j / sz][j % sz]'(by omega)) := List.getElem?_eq_getElem (by omega)
      refine ⟨xs (j / sz) (j % sz), ?_, hone _ _, fun d r e1 e2 => hx _ _ _ _ e1 e2⟩
      have := hcell _ _ _ _ h1 h2
      rwa [show j / sz * sz + j % sz = j by rw [Nat.mul_comm]; exact Nat.div_add_mod j sz] at this)
    refine .inr ⟨ad, c, vs, rfl, hc, hm, hf, hA, hb, ⟨hl, hrs, fun v hv' => ?_, fun k j r d hk hj => ?_⟩, fun j v hj => (hv j v hj).1⟩
    · obtain ⟨j, hj, rfl⟩ := List.getElem_of_mem hv'
      exact (hv j _ (List.getElem?_eq_getElem hj)).2.1
    · have hkl := (List.getElem?_eq_some_iff.1 hk).1
      have hrl := hrs _ (List.mem_of_getElem? hk)
      have hjl := (List.getElem?_eq_some_iff.1 hj).1
      have hlt : k * sz + j < vs.length := by
        rw [hl]
        have : (k + 1) * sz ≤ es.length * sz := Nat.mul_le_mul_right _ (by omega)
        rw [Nat.add_mul] at this
        omega
      refine ⟨vs[k * sz + j], List.getElem?_eq_getElem hlt, ?_⟩
      have h3 : (k * sz + j) / sz = k := by
        rw [Nat.mul_comm, Nat.mul_add_div hsz, Nat.div_eq_of_lt (by omega)]
        omega
      have h4 : (k * sz + j) % sz = j := by
        rw [Nat.mul_comm, Nat.mul_add_mod, Nat.mod_eq_of_lt (by omega)]
      exact (hv _ _ (List.getElem?_eq_getElem hlt)).2.2 d r (by rw [h3]; exact hk) (by rw [h4]; exact hj)

theorem own_cells {x : Value} {e : TypeId} {sz : Nat} {es : List (List DV)} {xs : List Value} (hown : w.ownsRow B e sz x es.length xs) : (x = .slice none 0 0 ∧ es = [] ∧ xs = []) ∨
    ∃ g c, x = .slice (some ⟨g, 0, none⟩) es.length c ∧ es.length ≤ c ∧ c ≤ maxLen ∧ B ≤ g ∧ g < w.heap.size ∧ ∀ (j : Nat) v, xs[j]? = some v → w.cell? (Addr.add ⟨g, 0, none⟩ j) = some v := by
  rcases hown.2 with ⟨rfl, hn⟩ | ⟨g, cap, cur, rfl, hB, hh, h1, h2, _⟩
  · have : es = [] := List.eq_nil_of_length_eq_zero hn
    subst this
    exact .inl ⟨rfl, rfl, List.eq_nil_of_length_eq_zero (by simpa using hown.1)⟩
  · exact .inr ⟨g, cap, rfl, h1, h2, hB, (Array.getElem?_eq_some_iff.1 hh).1, hown.cells (g := g) rfl⟩

/-- what an append or a copy takes over -/
theorem news_elim {x : Value} {d : DV} {e : TypeId} {K : List (List DV) → Bool → Prop} (hs : (tinfo tt e).size ≠ 0) (hO : ObjsOk A os H w) (hx : RepV A os w x d) (h : dNews tt e (os.map (·.2)) d K) :
    ∃ ys sm, K ys sm ∧ ((x = .slice none 0 0 ∧ ys = []) ∨ ∃ ad c xs, x = .slice (some ad) ys.length c ∧ RowRep A w xs ys (tinfo tt e).size ∧ ∀ (j : Nat) v, xs[j]? = some v → w.cell? (ad.add j) = some v) := by
  unfold dNews at h
  split at h
  · exact ⟨_, _, h, .inl ⟨hx.nl_inv, rfl⟩⟩
  · rename_i sz es f
    split at h
    · rename_i hb
      have hb := Nat.eq_of_beq_eq_true hb
      subst hb
      rcases lst_cells (Nat.pos_of_ne_zero hs) hx.lst_inv with ⟨rfl, rfl⟩ | ⟨ad, c, xs, rfl, _, _, _, _, _, hr, hc⟩
      · exact ⟨_, _, h, .inl ⟨rfl, rfl⟩⟩
      · exact ⟨_, _, h, .inr ⟨ad, c, xs, rfl, hr, hc⟩⟩
    · exact h.elim
  · rename_i j
    split at h
    · rename_i e2 sz es hl
      split at h
      · rename_i hb
        have hb := Nat.eq_of_beq_eq_true hb
        subst hb
        obtain ⟨x', ho'⟩ := lget_os hl (by simp)
        have hxe := hx.own_row ho'
        subst hxe
        obtain ⟨xs, hown, _, hr⟩ := obj_row (hO _ _ _ ho')
        rcases own_cells hown with ⟨rfl, rfl, rfl⟩ | ⟨g, c, rfl, _, _, _, _, hc⟩
        · exact ⟨_, _, h, .inl ⟨rfl, rfl⟩⟩
        · exact ⟨_, _, h, .inr ⟨_, c, xs, rfl, hr, hc⟩⟩
      · exact h.elim
    · exact h.elim
  · exact h.elim

theorem append_own2 (hT : tabOk P tt = true) {t ty e : TypeId} (hk : (tinfo tt t).k = .slc e) (hs : (tinfo tt e).size ≠ 0) {base : Nat} {v : Value} {m : Nat} {xs news : List Value} (hown : w.ownsRow base e (tinfo tt e).size v m xs)
    {ad : Addr} {k c : Nat} (hl : news.length = k * (tinfo tt e).size) (hnews : ∀ (j : Nat) u, news[j]? = some u → w.cell? (ad.add j) = some u) (h1 : ∀ u ∈ news, u.oneCell' = true) (hf : fitsIn tt e (m + k)) (hbase : base ≤ w.heap.size) :
    ∃ v' w', (Builtin.append_ #[t, t] ty #[v, .slice (some ad) k c]).run P w = .ok v' w' ∧ w'.ownsRow base e (tinfo tt e).size v' (m + k) (xs ++ news) ∧ w.grownBy w' (blk v) ∧ (∀ b, blk v' = some b → blk v = some b ∨ w.heap.size ≤ b) := by
  obtain ⟨i, hi, hsz, hby, z, hz, hzo, hzl⟩ := tab_size hT hs
  have hu := tab_slc hT hk
  have hzs : z.cells.size = (tinfo tt e).size := by rw [← hzl]; simpa using (zOk_all (A := fun _ => False) (w := w) hzo).1
  have hbl : v.ownBlock = blk v := by
    rcases hown.2 with ⟨rfl, _⟩ | ⟨g, cap, cur, rfl, _⟩ <;> rfl
  obtain ⟨v', w', hr, ho, hg, _⟩ := run_append_own (P := P) w base t ty e i z _ _ hu hi hz hsz hby hzs (Nat.pos_of_ne_zero hs) v m xs hown ad k c news hl hnews h1 hf.2 hf.1 hbase
  rw [hbl] at hg
  refine ⟨v', w', hr, ho, hg, ?_⟩
  rcases hown.2 with ⟨rfl, rfl⟩ | ⟨g, cap, cur, rfl, hbg, hh, hnc, hcm, hcs, htake⟩
  · by_cases hk0 : k = 0
    · subst hk0
      rcases ho.2 with ⟨rfl, _⟩ | ⟨g, cap, cur, rfl, hbg, hh, hnc, hcm, hcs, htake⟩
      · simp [blk]
      · exfalso
        have hrun : (Builtin.append_ #[t, t] ty #[.slice none 0 0, .slice (some ad) 0 c]).run P w = .ok (.slice none 0 0) w := by
          simp [Builtin.append_, run_underlying hu, sizeOf, typeInfo, hi, Builtin.lenOf, Builtin.firstCells, loadCells, loadCellsFrom]
        rw [hrun] at hr
        cases hr
    · have := run_append_nil (P := P) w t ty e i z hu hi hz ad k c news (by rw [hl, hsz]) hnews (by omega) (by have := hf.2; simp only [maxLen] at this; omega) (by have := hf.1; rw [hby]; simp only [Nat.zero_add] at this; omega)
      rw [this] at hr
      cases hr
      intro b hb
      simp [blk] at hb
      exact .inr (by omega)
  · by_cases hroom : m + k ≤ cap
    · have hfit : m * i.size + news.length ≤ cur.size := by rw [hl, hcs, hsz, ← Nat.add_mul]; exact Nat.mul_le_mul_right _ hroom
      have := run_append_room (P := P) w t ty e i hu hi g m cap cur hh ad k c news (by rw [hl, hsz]) hnews h1 hroom hfit
      rw [this] at hr
      cases hr
      intro b hb
      exact .inl hb
    · have holds : ∀ (j : Nat) u, xs[j]? = some u → w.cell? ((⟨g, 0, none⟩ : Addr).add j) = some u := hown.cells (g := g) rfl
      have := run_append_grow (P := P) w t ty e i z hu hi hz ⟨g, 0, none⟩ m cap xs (by rw [hown.1, hsz]) holds ad k c news (by rw [hl, hsz]) hnews (by omega) (by have := hf.2; simp only [maxLen] at this; omega) (by rw [hby]; exact growslice_fits (by omega) hf.1)
      rw [this] at hr
      cases hr
      intro b hb
      simp [blk] at hb
      exact .inr (by omega)

theorem row_push {w' : World} {x : Value} {e : TypeId} {sz : Nat} {es : List (List DV)} {xs : List Value} (h : Rep A0 w0 n os s a w) (hg : w.grownBy w' none) (hnew : ∀ b, blk x = some b → w.heap.size ≤ b)
    (hown : w'.ownsRow 0 e sz x es.length xs) (hsz : 0 < sz) (hr : RowRep (avoid A0 os) w xs es sz) : Rep A0 w0 n (os ++ [(x, .row e sz es)]) ⟨s.env, s.loc ++ [.row e sz es]⟩ a w' :=
  h.push hg hnew (row_obj (fun b hb => Home.mine_new h.gr (hnew b hb)) hown hsz (hr.keep (keeps_push (ob := .row e sz es) h hg hnew)))
theorem own_one {v : Value} {m : Nat} {e : TypeId} {sz : Nat} {xs : List Value} (hown : w.ownsRow B e sz v m xs) : v.oneCell' = true := by
  rcases hown.2 with ⟨rfl, _⟩ | ⟨g, cap, cur, rfl, _⟩ <;> rfl
theorem ownsRow_base {v : Value} {m B' : Nat} {e : TypeId} {sz : Nat} {xs : List Value} (hown : w.ownsRow B e sz v m xs) (h : B' ≤ B) : w.ownsRow B' e sz v m xs := by
  refine ⟨hown.1, ?_⟩
  rcases hown.2 with hn | ⟨g, cap, cur, e, hB, rest⟩
  · exact .inl hn
  · exact .inr ⟨g, cap, cur, e, Nat.le_trans h hB, rest⟩
theorem append_exec {t t' : TypeId} {x y : Operand} {args : Array Operand} {ats : Array TypeId} (ho : o.op = .call { callee := .builtin .append, args := args, argTypes := ats }) (ha : args.toList = [x, y]) (hat : ats.toList = [t, t']) (htt : t = t') {r : Value} {w' : World}
    (hr : (Builtin.append_ #[t, t] o.type #[a.eval x, a.eval y]).run P w = .ok r w') : (execOp a.eval o).run P w = .ok (.value r) w' := by
  obtain rfl : args = #[x, y] := by cases args; simp at ha; simp [ha]
  subst htt
  obtain rfl : ats = #[t, t] := by cases ats; simp at hat; simp [hat]
  simp only [execOp, ho, resolve, invoke, builtin, Sem.run_bind, Sem.run_pure, Result.andThen_ok, List.map_toArray, List.map_cons, List.map_nil, hr]
theorem append_none {t ty e : TypeId} (hT : tabOk P tt = true) (hk : (tinfo tt t).k = .slc e) (hs : (tinfo tt e).size ≠ 0) {ad : Option Addr} {m c : Nat} (hmc : m ≤ c) :
    (Builtin.append_ #[t, t] ty #[.slice ad m c, .slice none 0 0]).run P w = .ok (.slice ad m c) w := by
  obtain ⟨i, hi, hsz, _⟩ := tab_size hT hs
  have hu := tab_slc hT hk
  cases ad <;> simp [Builtin.append_, run_underlying hu, sizeOf, typeInfo, hi, Builtin.lenOf, Builtin.firstCells, hmc, storeCells]
theorem append_zero {t ty e : TypeId} (hT : tabOk P tt = true) (hk : (tinfo tt t).k = .slc e) (hs : (tinfo tt e).size ≠ 0) {ad ad' : Option Addr} {m c c' : Nat} (hmc : m ≤ c) :
    (Builtin.append_ #[t, t] ty #[.slice ad m c, .slice ad' 0 c']).run P w = .ok (.slice ad m c) w := by
  obtain ⟨i, hi, hsz, _⟩ := tab_size hT hs
  have hu := tab_slc hT hk
  cases ad <;> cases ad' <;> simp [Builtin.append_, run_underlying hu, sizeOf, typeInfo, hi, Builtin.lenOf, Builtin.firstCells, hmc, storeCells, loadCells, loadCellsFrom]

/-- what a slice reads as, as cells -/
abbrev NewsOf (A : Nat → Prop) (w : World) (sz : Nat) (y : Value) (ys : List (List DV)) : Prop :=
  (y = .slice none 0 0 ∧ ys = []) ∨ ∃ ad c xs, y = .slice (some ad) ys.length c ∧ RowRep A w xs ys sz ∧ ∀ (j : Nat) v, xs[j]? = some v → w.cell? (ad.add j) = some v
theorem app_nl (hT : tabOk P tt = true) {t ty e : TypeId} (hk : (tinfo tt t).k = .slc e) (hs : (tinfo tt e).size ≠ 0) {y : Value} {ys : List (List DV)} (hfit : fitsIn tt e ys.length) (hy : NewsOf A w (tinfo tt e).size y ys) :
    ∃ v' w' xs, (Builtin.append_ #[t, t] ty #[.slice none 0 0, y]).run P w = .ok v' w' ∧ w'.ownsRow 0 e (tinfo tt e).size v' ys.length xs ∧ w.grownBy w' none ∧ (∀ b, blk v' = some b → w.heap.size ≤ b) ∧ RowRep A w xs ys (tinfo tt e).size := by
  rcases hy with ⟨rfl, rfl⟩ | ⟨ad, c, news, rfl, hr, hc⟩
  · exact ⟨_, _, [], append_none hT hk hs (Nat.le_refl 0), ⟨by simp, .inl ⟨rfl, rfl⟩⟩, grownBy.refl' w none, by simp [blk], .nil⟩
  · obtain ⟨v', w', hrun, hown, hg, hb⟩ := append_own2 (P := P) (ty := ty) hT hk hs (World.ownsRow_nil w 0 e (tinfo tt e).size) hr.len hc hr.one (by simpa using hfit) (Nat.zero_le _)
    rw [Nat.zero_add, List.nil_append] at hown
    exact ⟨v', w', news, hrun, hown, hg, fun b hb' => by rcases hb b hb' with h1 | h1; simp [blk] at h1; exact h1, hr⟩
theorem app_own (hT : tabOk P tt = true) {t ty e : TypeId} (hk : (tinfo tt t).k = .slc e) (hs : (tinfo tt e).size ≠ 0) {x y : Value} {es ys : List (List DV)} {xs : List Value} (hown : w.ownsRow 0 e (tinfo tt e).size x es.length xs) (hrr : RowRep A w xs es (tinfo tt e).size)
    (hfit : fitsIn tt e (es.length + ys.length)) (hy : NewsOf A w (tinfo tt e).size y ys) :
    ∃ v' w' xs', (Builtin.append_ #[t, t] ty #[x, y]).run P w = .ok v' w' ∧ w'.ownsRow 0 e (tinfo tt e).size v' (es ++ ys).length xs' ∧ w.grownBy w' (blk x) ∧ (∀ b, blk v' = some b → blk x = some b ∨ w.heap.size ≤ b) ∧ RowRep A w xs' (es ++ ys) (tinfo tt e).size := by
  rcases hy with ⟨rfl, rfl⟩ | ⟨ad, c, news, rfl, hr, hc⟩
  · have hrun : (Builtin.append_ #[t, t] ty #[x, .slice none 0 0]).run P w = .ok x w := by
      rcases own_cells hown with ⟨hv, _, _⟩ | ⟨g, cc, hv, hle, _⟩
      · rw [hv]; exact append_none hT hk hs (Nat.le_refl 0)
      · rw [hv]; exact append_none hT hk hs hle
    exact ⟨x, w, xs, hrun, by simpa using hown, grownBy.refl' _ _, fun b hb => .inl hb, by simpa using hrr⟩
  · obtain ⟨v', w', hrun, hown', hg, hb⟩ := append_own2 (P := P) (ty := ty) hT hk hs hown hr.len hc hr.one hfit (Nat.zero_le _)
    exact ⟨v', w', xs ++ news, hrun, by rw [List.length_append]; exact hown', hg, hb, hrr.append hr⟩
theorem app_full (hT : tabOk P tt = true) {t ty e : TypeId} (hk : (tinfo tt t).k = .slc e) (hs : (tinfo tt e).size ≠ 0) {x y : Value} {es ys : List (List DV)} (hx : Imm A w x (.lst (tinfo tt e).size es true))
    (hfit : fitsIn tt e (es.length + ys.length)) (hy : NewsOf A w (tinfo tt e).size y ys) (hys : 0 < ys.length) :
    ∃ v' w' xs, (Builtin.append_ #[t, t] ty #[x, y]).run P w = .ok v' w' ∧ w'.ownsRow 0 e (tinfo tt e).size v' (es ++ ys).length xs ∧ w.grownBy w' none ∧ (∀ b, blk v' = some b → w.heap.size ≤ b) ∧ RowRep A w xs (es ++ ys) (tinfo tt e).size := by
  have hpos := Nat.pos_of_ne_zero hs
  rcases hy with ⟨rfl, rfl⟩ | ⟨ad, c, news, rfl, hr, hc⟩
  · simp at hys
  · rcases lst_cells hpos hx with ⟨rfl, rfl⟩ | ⟨ad', c', xs, rfl, hle, hm, hf, _, _, hrr, hcx⟩
    · obtain ⟨v', w', xs, h1, h2, h3, h4, h5⟩ := app_nl (P := P) (ty := ty) (A := A) (w := w) hT hk hs (ys := ys) (y := .slice (some ad) ys.length c) (by simpa using hfit) (.inr ⟨ad, c, news, rfl, hr, hc⟩)
      exact ⟨v', w', xs, h1, by simpa using h2, h3, h4, by simpa using h5⟩
    · have hcf := hf rfl
      obtain ⟨i, hi, hsz, hby, z, hz, hzo, hzl⟩ := tab_size hT hs
      have hu := tab_slc hT hk
      have hzs : z.cells.size = (tinfo tt e).size := by rw [← hzl]; simpa using (zOk_all (A := fun _ => False) (w := w) hzo).1
      have hrun := run_append_grow (P := P) w t ty e i z hu hi hz ad' es.length c' xs (by rw [hrr.len, hsz]) hcx ad ys.length c news (by rw [hr.len, hsz]) hc (by omega) (by have := hfit.2; simp only [maxLen] at this; omega) (by rw [hby]; exact growslice_fits (by omega) hfit.1)
      refine ⟨_, _, xs ++ news, hrun, ⟨by rw [(hrr.append hr).len], .inr ⟨w.heap.size, _, _, by rw [List.length_append], Nat.zero_le _, heap_alloc_new w.drew _, ?_, ?_, ?_, ?_⟩⟩, ⟨rfl, rfl, rfl, by simp, fun k2 hk2 _ => (World.grownBy_alloc w.drew _ none).block k2 hk2 (by simp)⟩, fun b hb => by simp [blk] at hb; omega, hrr.append hr⟩
      · rw [List.length_append]; exact grownCap_ge w _ _ e
      · exact grownCap_le_maxLen w _ _ e hfit.2
      · have hge := grownCap_ge w (es.length + ys.length) c' e
        simp only [Array.size_append, List.size_toArray, size_zeroCells, hzs, hrr.len, hr.len, ← Nat.add_mul]
        congr 1
        omega
      · simp only [Array.toList_append, List.append_assoc]
        rw [← List.append_assoc, ← (hrr.append hr).len]
        exact List.take_left

theorem append_ok (hT : tabOk P tt = true) {t t' e : TypeId} {x y : Operand} {args : Array Operand} {ats : Array TypeId} {Q : Exit → Act → World → Prop} (ho : o.op = .call { callee := .builtin .append, args := args, argTypes := ats }) (ha : args.toList = [x, y]) (hat : ats.toList = [t, t']) (htt : t = t')
    (hk : (tinfo tt t).k = .slc e) (hs : (tinfo tt e).size ≠ 0) (h : Rep A0 w0 n os s a w) (hd : ∀ t, o.dst = some t → t < n) (hK : dAppend tt e s o.dst (ev s x) (ev s y) K) : o.wp P a w (Nx A0 w0 n K) Q := by
  unfold dAppend at hK
  rw [h.loc] at hK
  obtain ⟨ys, sm, hK, hy⟩ := news_elim hs h.obj (h.ev y) hK
  have hx := h.ev x
  have hpos := Nat.pos_of_ne_zero hs
  have exec := fun {r : Value} {w' : World} => append_exec (P := P) (w := w) (a := a) (r := r) (w' := w') ho ha hat htt
  split at hK
  · -- nil base
    rename_i ex
    rw [ex] at hx
    have hxv := hx.nl_inv
    obtain ⟨hfit, hK⟩ := hK
    rcases hy with ⟨hyv, rfl⟩ | ⟨ad, c, news, hyv, hr, hc⟩
    · have hrun := append_none (w := w) (ty := o.type) hT hk hs (ad := none) (Nat.le_refl 0)
      refine wp_value (exec (by rw [hxv, hyv]; exact hrun)) ?_
      have hp := row_push (x := .slice none 0 0) (e := e) (sz := (tinfo tt e).size) (es := []) (xs := []) h (grownBy.refl' w none) (by simp [blk]) ⟨by simp, .inl ⟨rfl, rfl⟩⟩ hpos .nil
      rw [← h.loc] at hK
      exact Nx.put hp hd (by rw [h.len]; exact .own last_obj rfl) hK
    · obtain ⟨v', w', hrun, hown, hg, hb⟩ := append_own2 (P := P) (ty := o.type) hT hk hs (World.ownsRow_nil w 0 e (tinfo tt e).size) hr.len hc hr.one (by simpa using hfit) (Nat.zero_le _)
      rw [Nat.zero_add, List.nil_append] at hown
      refine wp_value (exec (by rw [hxv, hyv]; exact hrun)) ?_
      have hp := row_push (es := ys) h hg (fun b hb' => by rcases hb b hb' with h1 | h1; simp [blk] at h1; exact h1) hown hpos hr
      rw [← h.loc] at hK
      exact Nx.put hp hd (by rw [h.len]; exact .own last_obj (own_one hown)) hK
  · -- a row of the call's own
    rename_i i ex
    rw [ex] at hx
    split at hK
    · rename_i e3 sz es3 hl
      split at hK
      · rename_i hb
        simp only [Bool.and_eq_true] at hb
        have hb1 := Nat.eq_of_beq_eq_true hb.1
        have hb2 := Nat.eq_of_beq_eq_true hb.2
        subst hb1; subst hb2
        obtain ⟨x', hi⟩ := lget_os hl (by simp)
        have hxe := hx.own_row hi
        subst hxe
        obtain ⟨hfit, hK⟩ := hK
        obtain ⟨xs, hown, _, hrr⟩ := obj_row (h.obj _ _ _ hi)
        have fin : ∀ {v' : Value} {w' : World} {news : List Value}, (Builtin.append_ #[t, t] o.type #[a.eval x, a.eval y]).run P w = .ok v' w' → w'.ownsRow 0 e3 (tinfo tt e3).size v' (es3.length + ys.length) (xs ++ news) → w.grownBy w' (blk (a.eval x)) →
            (∀ b, blk v' = some b → blk (a.eval x) = some b ∨ w.heap.size ≤ b) → RowRep (avoid A0 os) w news ys (tinfo tt e3).size → o.wp P a w (Nx A0 w0 n K) Q := by
          intro v' w' news hrun hown' hg hb hr
          refine wp_value (exec hrun) ?_
          have hs2 := h.sub (i := i) (r := .junk) (x' := v') (ob' := .row e3 (tinfo tt e3).size (es3 ++ ys)) hi hg (fun b _ hbb => hb b hbb) (fun os' hos' => ?_) (fun os' _ => .imm .junk)
          · have hK' : putK ⟨mapE (subD i .junk) s.env, lset (mapL (sub0 i .junk) s.loc) i (.row e3 (tinfo tt e3).size (es3 ++ ys))⟩ o.dst (.own i) K := hK
            refine Nx.put hs2 hd (.own (e := e3) (sz := (tinfo tt e3).size) (es := es3 ++ ys) ?_ (own_one hown')) hK'
            rw [List.getElem?_set_self (by simpa using (List.getElem?_eq_some_iff.1 hi).1)]
          · have hkeep : Keeps (avoid A0 os) (avoid A0 os') w w' := by
              refine ⟨hg.size, fun b hbl hv => ?_, fun b hbl hn => hg.block b hbl (fun e => hn (.inr ⟨i, _, _, hi, by simp, e.symm⟩))⟩
              rcases hv with hv | ⟨j, z, o', hj, hdd, hbb⟩
              · exact .inl hv
              · rw [hos'] at hj
                by_cases e : j = i
                · subst e
                  rw [List.getElem?_set_self (by simpa using (List.getElem?_eq_some_iff.1 hi).1)] at hj
                  cases hj
                  rcases hb b hbb with h2 | h2
                  · exact .inr ⟨_, _, _, hi, by simp, h2⟩
                  · omega
                · rw [List.getElem?_set_ne (fun e' => e e'.symm), List.getElem?_map] at hj
                  cases hj1 : os[j]? with
                  | none => rw [hj1] at hj; cases hj
                  | some p =>
                    rw [hj1] at hj
                    cases hj
                    exact .inr ⟨j, _, _, hj1, fun e => hdd (by rw [e]; rfl), hbb⟩
            exact row_obj (es := es3 ++ ys) (fun b hbb => (hb b hbb).elim (row_mine (h.obj _ _ _ hi) b) (Home.mine_new h.gr)) (by rw [List.length_append]; exact hown') hpos ((hrr.append hr).keep hkeep)
        rcases hy with ⟨hyv, rfl⟩ | ⟨ad, c, news, hyv, hr, hc⟩
        · have hrun : (Builtin.append_ #[t, t] o.type #[a.eval x, a.eval y]).run P w = .ok (a.eval x) w := by
            rw [hyv]
            rcases own_cells hown with ⟨hv, _, _⟩ | ⟨g, cc, hv, hle, _⟩
            · rw [hv]; exact append_none hT hk hs (Nat.le_refl 0)
            · rw [hv]; exact append_none hT hk hs hle
          exact fin (news := []) hrun (by simpa using hown) (grownBy.refl' _ _) (fun b hb => .inl hb) .nil
        · obtain ⟨v', w', hrun, hown', hg, hb⟩ := append_own2 (P := P) (ty := o.type) hT hk hs hown hr.len hc hr.one hfit (Nat.zero_le _)
          exact fin (by rw [hyv]; exact hrun) hown' hg hb hr
      · exact hK.elim
    · exact hK.elim
  · -- a list without spare room
    rename_i sz es ex
    rw [ex] at hx
    split at hK
    · rename_i hb
      have hb := Nat.eq_of_beq_eq_true hb
      subst hb
      obtain ⟨hfit, hK⟩ := hK
      have hxl := lst_cells hpos hx.lst_inv
      have big : ∀ {ad : Addr} {c : Nat} {news : List Value}, a.eval y = .slice (some ad) ys.length c → RowRep (avoid A0 os) w news ys (tinfo tt e).size → (∀ (j : Nat) v, news[j]? = some v → w.cell? (ad.add j) = some v) → 0 < ys.length →
          ∃ v' w' xs, (Builtin.append_ #[t, t] o.type #[a.eval x, a.eval y]).run P w = .ok v' w' ∧ w'.ownsRow w.heap.size e (tinfo tt e).size v' (es ++ ys).length xs ∧ w.grownBy w' none ∧ RowRep (avoid A0 os) w xs (es ++ ys) (tinfo tt e).size := by
        intro ad c news hyv hr hc hys
        rcases hxl with ⟨hxv, rfl⟩ | ⟨ad', c', xs, hxv, hle, hm, hf, _, _, hrr, hcx⟩
        · obtain ⟨v', w', hrun, hown, hg, hb⟩ := append_own2 (P := P) (ty := o.type) hT hk hs (World.ownsRow_nil w w.heap.size e (tinfo tt e).size) hr.len hc hr.one (by simpa using hfit) (Nat.le_refl _)
          rw [Nat.zero_add, List.nil_append] at hown
          exact ⟨v', w', news, by rw [hxv, hyv]; exact hrun, hown, hg, hr⟩
        · have hcf := hf rfl
          obtain ⟨i, hi, hsz, hby, z, hz, hzo, hzl⟩ := tab_size hT hs
          have hu := tab_slc hT hk
          have hzs : z.cells.size = (tinfo tt e).size := by rw [← hzl]; simpa using (zOk_all (A := fun _ => False) (w := w) hzo).1
          have hrun := run_append_grow (P := P) w t o.type e i z hu hi hz ad' es.length c' xs (by rw [hrr.len, hsz]) hcx ad ys.length c news (by rw [hr.len, hsz]) hc (by omega) (by have := hfit.2; simp only [maxLen] at this; omega) (by rw [hby]; exact growslice_fits (by omega) hfit.1)
          refine ⟨_, _, xs ++ news, by rw [hxv, hyv]; exact hrun, ⟨by rw [(hrr.append hr).len], .inr ⟨w.heap.size, _, _, by rw [List.length_append], Nat.le_refl _, heap_alloc_new w.drew _, ?_, ?_, ?_, ?_⟩⟩, ⟨rfl, rfl, rfl, by simp, fun k2 hk2 _ => (World.grownBy_alloc w.drew _ none).block k2 hk2 (by simp)⟩, hrr.append hr⟩
          · rw [List.length_append]; exact grownCap_ge w _ _ e
          · exact grownCap_le_maxLen w _ _ e hfit.2
          · have hge := grownCap_ge w (es.length + ys.length) c' e
            simp only [Array.size_append, List.size_toArray, size_zeroCells, hzs, hrr.len, hr.len, ← Nat.add_mul]
            congr 1
            omega
          · simp only [Array.toList_append, List.append_assoc]
            rw [← List.append_assoc, ← (hrr.append hr).len]
            exact List.take_left
      split at hK
      · obtain ⟨hys, hK⟩ := hK
        rcases hy with ⟨hyv, rfl⟩ | ⟨ad, c, news, hyv, hr, hc⟩
        · simp at hys
        · obtain ⟨v', w', xs, hrun, hown, hg, hrx⟩ := big hyv hr hc hys
          refine wp_value (exec hrun) ?_
          have hp := row_push (es := es ++ ys) h hg (fun b hb' => by
            rcases own_cells hown with ⟨rfl, _⟩ | ⟨g, cc, rfl, _, _, hB, _⟩
            · simp [blk] at hb'
            · simp [blk] at hb'; omega) (ownsRow_base hown (Nat.zero_le _)) hpos hrx
          rw [← h.loc] at hK
          exact Nx.put hp hd (by rw [h.len]; exact .own last_obj (own_one hown)) hK
      · by_cases hys : ys = []
        · subst hys
          have hrun : (Builtin.append_ #[t, t] o.type #[a.eval x, a.eval y]).run P w = .ok (a.eval x) w := by
            have hyz : ∃ ad' c', a.eval y = .slice ad' 0 c' := by
              rcases hy with ⟨hyv, _⟩ | ⟨ad, c, news, hyv, _⟩
              · exact ⟨_, _, hyv⟩
              · exact ⟨_, _, hyv⟩
            obtain ⟨ad', c', hyv⟩ := hyz
            rw [hyv]
            rcases hxl with ⟨hxv, _⟩ | ⟨ad2, c2, xs, hxv, hle, _⟩
            · rw [hxv]; exact append_zero hT hk hs (Nat.le_refl 0)
            · rw [hxv]; exact append_zero hT hk hs hle
          refine wp_value (exec hrun) (Nx.put h hd ?_ hK)
          rw [List.append_nil]
          have him := hx.lst_inv
          generalize a.eval x = xv at him
          cases him with
          | lst xs hn hc hm hf hsz hA hb hone hcell hxx => exact .imm (.lst xs hn hc hm (by simp) hsz hA hb hone hcell hxx)
          | nil => exact .imm .nil
        · rcases hy with ⟨hyv, hn⟩ | ⟨ad, c, news, hyv, hr, hc⟩
          · exact absurd hn hys
          · obtain ⟨v', w', xs, hrun, hown, hg, hrx⟩ := big hyv hr hc (List.length_pos_iff.2 hys)
            refine wp_value (exec hrun) (Nx.put (h.grown hg) hd ?_ hK)
            have hrx' := hrx.keep (Keeps.grown (A := avoid A0 os) (A' := avoid A0 os) hg (fun _ _ h => h))
            rcases own_cells hown with ⟨rfl, hnil, _⟩ | ⟨g, cc, rfl, hle, hm, hB, hgs, hcell⟩
            · simp [hys] at hnil
            · have hA : ¬ avoid A0 os g := by
                rintro (h1 | ⟨j, z, o', hj, hdd, hbb⟩)
                · have := h.a0_lt h1
                  omega
                · have := ((h.obj j z o' hj).blk_ge hdd hbb).2
                  omega
              refine .imm (.lst (fun k j => xs.getD (k * (tinfo tt e).size + j) .nilFunc) rfl hle hm (by simp) hrx.rows (fun _ => hA) (fun _ => hgs) (fun k j => ?_) (fun k j r d h1 h2 => ?_) (fun k j r d h1 h2 => ?_))
              · cases hq : xs[k * (tinfo tt e).size + j]? with
                | none => simp [List.getD, hq]; rfl
                | some v => simp [List.getD, hq]; exact hrx.one v (List.mem_of_getElem? hq)
              · obtain ⟨v, hv, _⟩ := hrx'.rep k j r d h1 h2
                rw [hcell _ v hv]
                simp [List.getD, hv]
              · obtain ⟨v, hv, hi⟩ := hrx'.rep k j r d h1 h2
                simp only [List.getD, hv]
                exact hi
    · exact hK.elim
  · exact hK.elim
end
end Go.Lift
