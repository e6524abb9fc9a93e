/- The laws of this seat, part OwC: contracts of the functions, plain laws. No conditions. -/
import Derived.Test.YtmfgjjnmfahcjaaOwB
set_option linter.unusedSimpArgs false
set_option linter.unusedVariables false
set_option maxRecDepth 100000
namespace Go.Proofs.Ytmfgjjnmfahcjaa
open Go.Lift
/-! PaxosSafety: the walk -/
structure St9 where
  kd : Nat
  a : Nat
  b : Nat
  n : Nat
  w : Nat
def u8 (n : Nat) : DV := .v (.int .u8 n)
def stE (x : St9) : List DV := [u8 x.kd, u8 x.a, u8 x.b, u8 x.n, u8 x.w]
def okS (x : St9) : Prop := x.kd ≤ 255 ∧ x.a ≤ 255 ∧ x.b ≤ 255 ∧ x.n ≤ 255 ∧ x.w ≤ 255
def fnE (c : List Int) : List DV := [cutN c]
theorem cutN_ne {c : List Int} (h : c ≠ []) : cutN c = .lst 1 (c.map intE) false := by
  cases c with
  | nil => exact absurd rfl h
  | cons x l => rfl
def triE : List (List Rpt) → List (List Int) → List DV
  | r :: rs, c :: cs => .lst 3 (r.map rptE) false :: .lst 1 (c.map intE) false :: triE rs cs
  | _, _ => []
theorem tri_rep : ∀ {rs : List (List Rpt)} {cs : List (List Int)} {i : Nat}, rs.length = cs.length → i < rs.length → (triE rs cs)[2 * i]? = some (.lst 3 ((rs.getD i []).map rptE) false) ∧ (triE rs cs)[2 * i + 1]? = some (.lst 1 ((cs.getD i []).map intE) false)
  | [], _, i, _, h => absurd h (Nat.not_lt_zero _)
  | _ :: _, [], _, hl, _ => by simp at hl
  | r :: rs, c :: cs, 0, _, _ => ⟨rfl, rfl⟩
  | r :: rs, c :: cs, i + 1, hl, h => by
    have := tri_rep (rs := rs) (cs := cs) (i := i) (by simpa using hl) (by simpa using h)
    exact this
theorem tri_setR : ∀ {rs : List (List Rpt)} {cs : List (List Int)} {i : Nat} {x : List Rpt}, rs.length = cs.length → i < rs.length → dset (triE rs cs) (2 * i) (.lst 3 (x.map rptE) false) = triE (rs.set i x) cs
  | [], _, i, _, _, h => absurd h (Nat.not_lt_zero _)
  | _ :: _, [], _, _, hl, _ => by simp at hl
  | r :: rs, c :: cs, 0, _, _, _ => rfl
  | r :: rs, c :: cs, i + 1, x, hl, h => by
    have := tri_setR (rs := rs) (cs := cs) (i := i) (x := x) (by simpa using hl) (by simpa using h)
    show _ :: _ :: dset (triE rs cs) (2 * i) _ = _
    rw [this]
    rfl
theorem tri_setC : ∀ {rs : List (List Rpt)} {cs : List (List Int)} {i : Nat} {x : List Int}, rs.length = cs.length → i < rs.length → dset (triE rs cs) (2 * i + 1) (.lst 1 (x.map intE) false) = triE rs (cs.set i x)
  | [], _, i, _, _, h => absurd h (Nat.not_lt_zero _)
  | _ :: _, [], _, _, hl, _ => by simp at hl
  | r :: rs, c :: cs, 0, _, _, _ => rfl
  | r :: rs, c :: cs, i + 1, x, hl, h => by
    have := tri_setC (rs := rs) (cs := cs) (i := i) (x := x) (by simpa using hl) (by simpa using h)
    show _ :: _ :: dset (triE rs cs) (2 * i + 1) _ = _
    rw [this]
    rfl
theorem tri_len : ∀ {rs : List (List Rpt)} {cs : List (List Int)}, rs.length = cs.length → (triE rs cs).length = 2 * rs.length
  | [], [], _ => rfl
  | [], _ :: _, h => by simp at h
  | _ :: _, [], h => by simp at h
  | r :: rs, c :: cs, h => by
    have := tri_len (rs := rs) (cs := cs) (by simpa using h)
    simp only [triE, List.length_cons, this]
    omega
theorem tri_bnd (L : List LObj) : ∀ (rs : List (List Rpt)) (cs : List (List Int)), (triE rs cs).all (bnd0 L) = true
  | [], _ => by cases ‹List (List Int)› <;> rfl
  | _ :: _, [] => rfl
  | r :: rs, c :: cs => by
    simp only [triE, List.all_cons, tri_bnd L rs cs]
    rfl
theorem tri_sub (i : Nat) (d : DV) : ∀ (rs : List (List Rpt)) (cs : List (List Int)), (triE rs cs).map (sub0 i d) = triE rs cs
  | [], _ => by cases ‹List (List Int)› <;> rfl
  | _ :: _, [] => rfl
  | r :: rs, c :: cs => by
    simp only [triE, List.map_cons, tri_sub i d rs cs]
    rfl
theorem tri_nil : ∀ n, ∀ d ∈ triE (List.replicate n []) (List.replicate n []), ∃ sz, d = DV.lst sz [] false
  | 0, d, h => by cases h
  | n + 1, d, h => by
    simp only [List.replicate_succ, triE, List.mem_cons] at h
    rcases h with rfl | rfl | h
    · exact ⟨3, rfl⟩
    · exact ⟨1, rfl⟩
    · exact tri_nil n d h
theorem tri_zero : ole (.cells 63 (tinfo tt 63).zero) (.cells 63 (triE (List.replicate 64 []) (List.replicate 64 []))) := by
  have hz : (tinfo tt 63).zero = List.replicate 128 .nl := by kernel_rfl
  rw [hz]
  refine .cells (by rw [tri_len (by simp)]; simp) (fun i c d hc hd => ?_)
  have hc2 : c = .nl := by
    rw [List.getElem?_replicate] at hc
    split at hc
    · injection hc with hc
      exact hc.symm
    · cases hc
  obtain ⟨sz, rfl⟩ := tri_nil 64 d (List.mem_of_getElem? hd)
  rw [hc2]
  exact .nl
theorem dset_set {l : List Int} {i : Nat} {x : Int} : dset (l.map i64) i (i64 x) = (l.set i x).map i64 := by
  induction l generalizing i with
  | nil => cases i <;> rfl
  | cons a l ih =>
    cases i with
    | zero => rfl
    | succ i => simp only [List.map_cons, dset, ih, List.set_cons_succ]
theorem ints_bnd (L : List LObj) (s : List Int) : (s.map i64).all (bnd0 L) = true := by
  rw [List.all_eq_true]
  intro x hx
  obtain ⟨y, _, rfl⟩ := List.mem_map.1 hx
  rfl
theorem ole_cells {t : TypeId} {cs ds : List DV} (h : cs = ds) : ole (.cells t cs) (.cells t ds) := by subst h; exact .refl
theorem bnd9 {t1 t2 t3 t4 t5 : TypeId} {k2 k3 : Nat} {c : List DV} {e2 e3 : List (List DV)} {rs : List (List Rpt)} {cs : List (List Int)} {tk : List Int} {E : List (Nat × DV)} {R : List LObj}
    (h1 : bndE (.cells t1 c :: .row t2 k2 e2 :: .row t3 k3 e3 :: .cells t4 (triE rs cs) :: .cells t5 (tk.map i64) :: R) E = true)
    (h0 : c.all (bnd0 (.cells t1 c :: .row t2 k2 e2 :: .row t3 k3 e3 :: .cells t4 (triE rs cs) :: .cells t5 (tk.map i64) :: R)) = true)
    (h2 : bndL (.cells t1 c :: .row t2 k2 e2 :: .row t3 k3 e3 :: .cells t4 (triE rs cs) :: .cells t5 (tk.map i64) :: R) R = true) :
    (bndE (.cells t1 c :: .row t2 k2 e2 :: .row t3 k3 e3 :: .cells t4 (triE rs cs) :: .cells t5 (tk.map i64) :: R) E && bndL (.cells t1 c :: .row t2 k2 e2 :: .row t3 k3 e3 :: .cells t4 (triE rs cs) :: .cells t5 (tk.map i64) :: R) (.cells t1 c :: .row t2 k2 e2 :: .row t3 k3 e3 :: .cells t4 (triE rs cs) :: .cells t5 (tk.map i64) :: R)) = true := by
  simp only [bndL, h1, h0, h2, tri_bnd, ints_bnd, Bool.and_self]
def z3 : List DV := [i64 0, i64 0, .nl]
def accI (n i : Nat) : List (List DV) := List.replicate i (accE acc0) ++ List.replicate (n - i) z3
theorem accI_set {n i : Nat} (h : i < n) : (accI n i).set i (accE acc0) = accI n (i + 1) := by
  unfold accI
  rw [List.set_append_right _ _ (by simp), List.length_replicate, Nat.sub_self]
  obtain ⟨m, hm⟩ : ∃ m, n - i = m + 1 := ⟨n - i - 1, by omega⟩
  rw [hm, List.replicate_succ, List.set_cons_zero, List.replicate_succ', List.append_assoc, show n - (i + 1) = m by omega]
  rfl
theorem accI_get {n i : Nat} (h : i < n) : (accI n i)[i]? = some z3 := by
  unfold accI
  rw [List.getElem?_append_right (by simp), List.length_replicate, Nat.sub_self]
  obtain ⟨m, hm⟩ : ∃ m, n - i = m + 1 := ⟨n - i - 1, by omega⟩
  rw [hm]
  rfl
theorem dle_u8w {k : Nat} (h : k + 1 ≤ 255) : dle (.v (.int .u8 (IntKind.u8.wrap ((k : Int) + 1)))) (u8 (k + 1)) := by
  rw [wrap_u8 (by omega) (by omega)]
  exact .refl
theorem inv_dec {v : View} {s : PS} {G : Nat → Nat → Bool} (h : Inv v s G) (d : List Int) : Inv v { s with dec := d } G :=
  ⟨h.lacc, h.lfast, h.lrep, h.lcho, h.ltook, h.val, h.fas, h.zer, h.pos, h.gok, h.took, h.reps, fun t ht r hr => by
    obtain ⟨a, k⟩ := h.rep t ht r hr
    exact ⟨a, ⟨k.lt, k.mem, k.pro, k.none, k.zero, k.pos, k.top⟩⟩, fun t ht hc => ⟨(h.cho t ht hc).maj, (h.cho t ht hc).from'⟩, h.app⟩
theorem quo9 {n : Nat} (h1 : 1 ≤ n) (h2 : n ≤ 16) : IntKind.i64.wrap ((n : Int) - IntKind.i64.wrap ((IntKind.i64.wrap ((n : Int) - 1)).tdiv 4)) = ((n - (n - 1) / 4 : Nat) : Int) := by
  have e : (n : Int) - 1 = ((n - 1 : Nat) : Int) := by omega
  rw [e, wrap_i64 (n := ((n - 1 : Nat) : Int)) (by omega) (by omega)]
  have e2 : Int.tdiv ((n - 1 : Nat) : Int) 4 = (((n - 1) / 4 : Nat) : Int) := rfl
  rw [e2, wrap_i64 (n := (((n - 1) / 4 : Nat) : Int)) (by omega) (by omega), wrap_i64 (by omega) (by omega)]
  omega
theorem quo2 {n : Nat} (h2 : n ≤ 16) : IntKind.i64.wrap (IntKind.i64.wrap ((n : Int).tdiv 2) + 1) = ((n / 2 + 1 : Nat) : Int) := by
  have e2 : Int.tdiv (n : Int) 2 = ((n / 2 : Nat) : Int) := rfl
  rw [e2, wrap_i64 (n := ((n / 2 : Nat) : Int)) (by omega) (by omega), wrap_i64 (by omega) (by omega)]
  omega
theorem took_dec {v : View} {s : PS} {G : Nat → Nat → Bool} (hI : Inv v s G) {t : Nat} (ht : okT v t) (hch : choA s t ≠ []) (hq : ((v.mem.length / 2 + 1 : Nat) : Int) ≤ s.took.getD t 0) : Dec v s G (choA s t) :=
  ⟨hch, .inl ⟨t, ht, rfl, by
    have := hI.took t ht
    omega⟩⟩
def InvN (v : View) (P : PS) (G : Nat → Nat → Bool) : Prop := Inv v P G ∧ (P.dec ≠ [] → Dec v P G P.dec) ∧ (∀ c ∈ P.fast, c.length ≤ 1) ∧ P.dec.length ≤ 32
def InvW (v : View) (s : PS) : Prop := ∃ G, Inv v s G ∧ (s.dec ≠ [] → Dec v s G s.dec) ∧ (∀ c ∈ s.fast, c.length ≤ 1) ∧ s.dec.length ≤ 32
theorem acc_get {v : View} {s : PS} {G : Nat → Nat → Bool} (hI : Inv v s G) {a : Nat} (ha : a < v.mem.length) : (s.acc.map accE)[a]? = some (accE (accA s a)) := by
  have h : a < s.acc.length := by rw [hI.lacc]; exact ha
  unfold accA
  simp [h]
theorem acc_cut {v : View} {s : PS} {G : Nat → Nat → Bool} (hI : Inv v s G) {a : Nat} (ha : a < v.mem.length) : (accA s a).cut.length ≤ 32 := by
  rcases ((accB_iff _).1 (hI.val a ha)).2.2 with h | h
  · rw [h.2]
    exact Nat.zero_le _
  · have := (ids_ne h.2.2).2
    omega
theorem rep_cut {v : View} (hv : viewB v = true) {s : PS} {G : Nat → Nat → Bool} (hI : Inv v s G) {t : Nat} (ht : okT v t) : ∀ r ∈ repA s t, r.cut.length ≤ 32 := fun r hr => by
  have h4 := ((reps_iff hv).1 (hI.reps t ht)).1 r hr
  simp only [vrB, Bool.and_eq_true, Bool.or_eq_true, decide_eq_true_eq] at h4
  rcases h4.2 with h4 | h4
  · omega
  · have := (ids_ne (app_ids h4.2)).2
    omega
theorem fast_get {v : View} {s : PS} {G : Nat → Nat → Bool} (hI : Inv v s G) {a : Nat} (ha : a < v.mem.length) : (s.fast.map fnE)[a]? = some (fnE (fastA s a)) := by
  have h : a < s.fast.length := by rw [hI.lfast]; exact ha
  unfold fastA
  simp [h]
theorem fast_one {s : PS} (h : ∀ c ∈ s.fast, c.length ≤ 1) (j : Nat) : (fastA s j).length ≤ 1 := by
  unfold fastA
  by_cases hj : j < s.fast.length
  · have : s.fast.getD j [] = s.fast[j] := by simp [hj]
    rw [this]
    exact h _ (List.getElem_mem hj)
  · have : s.fast.getD j [] = [] := by simp [show s.fast[j]? = none from List.getElem?_eq_none (by omega)]
    rw [this]
    exact Nat.zero_le _
theorem fnE_cases (c : List Int) : (fnE c = [.nl] ∧ c = []) ∨ (fnE c = [.lst 1 (c.map intE) false] ∧ c ≠ []) := by
  cases c with
  | nil => exact .inl ⟨rfl, rfl⟩
  | cons x l => exact .inr ⟨rfl, by simp⟩
def voteC (s : PS) (y : List Int) (m : Nat) : Int := if y = [] then 0 else (cnt m fun a => decide (fastA s a = y) : Nat)
theorem voteC_zero (s : PS) (y : List Int) : voteC s y 0 = 0 := by
  unfold voteC
  split <;> rfl
theorem voteC_le (s : PS) (y : List Int) (m : Nat) : 0 ≤ voteC s y m ∧ voteC s y m ≤ m := by
  unfold voteC
  have := cnt_le m fun a => decide (fastA s a = y)
  split <;> omega
theorem voteC_succ (s : PS) (y : List Int) (m : Nat) : voteC s y (m + 1) = voteC s y m + if y ≠ [] ∧ fastA s m = y then 1 else 0 := by
  unfold voteC
  by_cases h : y = []
  · simp [h]
  · rw [if_neg h, if_neg h, cnt_succ]
    by_cases h2 : fastA s m = y <;> simp [h, h2]
set_option maxHeartbeats 8000000 in
theorem r8 (v : View) (hv : v.mem.length ≤ maxLen) (l : List St9) (hl : l.length ≤ maxLen) (hok : ∀ x ∈ l, okS x) : Ret Try.prog 8 [.agg (viewE v), .lst 5 (l.map stE) false] (.v (.bool true)) := by
  have e26 := r26 v hv
  have e27 := c_ref3_Valid v hv
  have hck := cuts_ok v
  generalize cutsR v = cuts at e26 hck
  refine ret_of_body (fn := Try.f8) (c := Try.f8.body.getD .skip) hm hT (by kernel_rfl) Try.func8 (by kernel_rfl) (by kernel_rfl) (by kernel_rfl) (by kernel_rfl) ?_
  repeat' ((conv => whnf); first | refine And.intro (fun h => h) ?_ | refine dcond_t (by assumption) ?_ | refine dcond_f (by assumption) ?_ | (refine dcond_intro ?_ ?_ <;> intro h) | exact .refl | refine And.intro (by kernel_rfl) ?_ | refine And.intro ⟨fun h => h, fun h => h⟩ ?_ | refine .inl ⟨_, _, DleAll_refl _, r9, ?_⟩ | refine ⟨_, _, DleAll_refl _, fun _ => r9, ?_⟩ | refine ⟨_, _, DleAll_refl _, r9, ?_⟩ | refine .inl ⟨_, _, DleAll_refl _, e26, ?_⟩ | refine ⟨_, _, DleAll_refl _, fun _ => e26, ?_⟩ | refine ⟨_, _, DleAll_refl _, e26, ?_⟩ | refine .inl ⟨_, _, DleAll_refl _, e27, ?_⟩ | refine ⟨_, _, DleAll_refl _, fun _ => e27, ?_⟩ | refine ⟨_, _, DleAll_refl _, e27, ?_⟩ | refine Exists.intro false ?_ | (refine And.intro ?_ ?_; focus (simp; done)) | fail)
  all_goals (conv => whnf)
  have hs : viewB v = true ∧ 0 < cuts.length ∧ l.length ≤ 120 := by
    simp only [List.length_map, Bool.or_eq_false_iff, decide_eq_false_iff_not, Bool.not_eq_false'] at h
    obtain ⟨⟨h1, h2⟩, h3⟩ := h
    exact ⟨h1, by omega, by omega⟩
  clear h e26 e27
  obtain ⟨hvw, hcp, h120⟩ := hs
  have hn := view_n hvw
  have hby1 : (v.mem.map intE).length * (tinfo tt 28).bytes ≤ 140737488355328 := by
    have e : (tinfo tt 28).bytes = 40 := by kernel_rfl
    rw [e, List.length_map]
    omega
  have hby2 : (v.mem.map intE).length * (tinfo tt 26).bytes ≤ 140737488355328 := by
    have e : (tinfo tt 26).bytes = 24 := by kernel_rfl
    rw [e, List.length_map]
    omega
  have hmx : (v.mem.map intE).length ≤ maxLen := by simpa using hv
  refine ⟨_, _, rfl, rfl, Nat.le_refl _, hby1, hmx, ?_⟩
  repeat' ((conv => whnf); first | refine And.intro (fun h => h) ?_ | refine dcond_t (by assumption) ?_ | refine dcond_f (by assumption) ?_ | (refine dcond_intro ?_ ?_ <;> intro h) | exact .refl | refine And.intro (by kernel_rfl) ?_ | refine And.intro ⟨fun h => h, fun h => h⟩ ?_ | refine ⟨_, _, rfl, rfl, Nat.le_refl _, hby2, hmx, ?_⟩ | refine Exists.intro false ?_ | (refine And.intro ?_ ?_; focus (simp; done)) | fail)
  all_goals (conv => whnf)
  refine ⟨Nat, fun i => ⟨[(1, .lst 5 (l.map stE) false), (2, .lp 0 0), (5, .lst 1 (cuts.map cutE) false), (6, i64 v.mem.length), (7, .own 1), (8, .own 2), (9, i64 i)], [.cells 44 (viewE v), .row 28 3 (accI v.mem.length i), .row 26 1 ((List.replicate v.mem.length []).map fnE)]⟩, fun i => i ≤ v.mem.length, fun i => v.mem.length - i, [], ⟨0, Nat.zero_le _, ?_⟩, ?_⟩
  · conv => whnf
    refine ⟨⟨.refl, .refl, .refl, dle_int (by simp), .refl, .refl, .refl, trivial⟩, ⟨.refl, ole_row ?_, ole_row ?_, trivial⟩, by rfl⟩
    · rw [List.length_map]
      rfl
    · rw [List.length_map, List.map_replicate]
      rfl
  · intro i hi
    repeat' ((conv => whnf); first | refine And.intro (fun h => h) ?_ | refine dcond_t (by assumption) ?_ | refine dcond_f (by assumption) ?_ | (refine dcond_intro ?_ ?_ <;> intro h) | exact .refl | refine And.intro (by kernel_rfl) ?_ | refine And.intro ⟨fun h => h, fun h => h⟩ ?_ | refine Exists.intro false ?_ | (refine And.intro ?_ ?_; focus (simp; done)) | fail)
    all_goals (conv => whnf)
    · have hlt : i < v.mem.length := by simpa using h
      clear h
      have hgi := accI_get hlt
      have hlen : i < (accI v.mem.length i).length := by
        unfold accI
        simp
        omega
      repeat' ((conv => whnf); first | refine And.intro (fun h => h) ?_ | refine dcond_t (by assumption) ?_ | refine dcond_f (by assumption) ?_ | (refine dcond_intro ?_ ?_ <;> intro h) | exact .refl | refine And.intro (by kernel_rfl) ?_ | refine And.intro ⟨fun h => h, fun h => h⟩ ?_ | refine .inl ⟨_, _, DleAll_refl _, r24, ?_⟩ | refine ⟨_, _, DleAll_refl _, fun _ => r24, ?_⟩ | refine ⟨_, _, DleAll_refl _, r24, ?_⟩ | refine ⟨i, And.intro ⟨rfl, hlen⟩ ?_⟩ | refine ⟨z3, And.intro hgi ?_⟩ | refine Exists.intro false ?_ | (refine And.intro ?_ ?_; focus (simp; done)) | fail)
      all_goals (conv => whnf)
      refine ⟨i + 1, hlt, by simp only []; omega, ?_⟩
      conv => whnf
      refine ⟨⟨.refl, .refl, .refl, .refl, .refl, .refl, dle_int (wrap_succ (by omega)), trivial⟩, ⟨.refl, ole_row ?_, .refl, trivial⟩, by rfl⟩
      rw [← accI_set hlt]
      rfl
    · have : i = v.mem.length := by
        simp at h
        omega
      subst this
      clear h hi hby1 hby2
      have ha0 : accI v.mem.length v.mem.length = (ps0 v.mem.length).acc.map accE := by
        unfold accI ps0
        rw [Nat.sub_self, List.map_replicate]
        simp
      rw [ha0]
      refine ⟨Nat × PS, fun y => ⟨[(1, .lst 5 (l.map stE) false), (2, .lp 0 0), (5, .lst 1 (cuts.map cutE) false), (6, i64 v.mem.length), (7, .own 1), (8, .own 2), (10, .lp 3 0), (11, .lp 4 0), (12, .lst 1 (y.2.dec.map intE) false), (13, i64 y.1)], [.cells 44 (viewE v), .row 28 3 (y.2.acc.map accE), .row 26 1 (y.2.fast.map fnE), .cells 63 (triE y.2.rep y.2.cho), .cells 65 (y.2.took.map i64)]⟩, fun y => y.1 ≤ l.length ∧ InvW v y.2, fun y => l.length - y.1, [], ⟨(0, ps0 v.mem.length), ⟨Nat.zero_le _, fun _ _ => false, inv0 hvw, fun h => absurd rfl h, fun c hc => ?_, Nat.zero_le _⟩, ?_⟩, ?_⟩
      · have hc : c ∈ List.replicate v.mem.length [] := hc
        rw [List.eq_of_mem_replicate hc]
        exact Nat.zero_le _
      · conv => whnf
        refine ⟨⟨.refl, .refl, .refl, .refl, .refl, .refl, .refl, .refl, .nl, .refl, trivial⟩, ⟨.refl, .refl, .refl, tri_zero, ole_cells ?_, trivial⟩, bnd9 rfl rfl rfl⟩
        kernel_rfl
      · intro ⟨i, s⟩ ⟨hi, G, hI, hD, hF1, hd32⟩
        simp only at hi hI hD hF1 hd32
        repeat' ((conv => whnf); first | refine And.intro (fun h => h) ?_ | refine dcond_t (by assumption) ?_ | refine dcond_f (by assumption) ?_ | (refine dcond_intro ?_ ?_ <;> intro h) | exact .refl | refine And.intro (by kernel_rfl) ?_ | refine And.intro ⟨fun h => h, fun h => h⟩ ?_ | refine Exists.intro false ?_ | (refine And.intro ?_ ?_; focus (simp; done)) | fail)
        all_goals (conv => whnf)
        have hlt : i < l.length := by simpa using h
        clear h
        obtain ⟨x, hx⟩ : ∃ x, x = l[i] := ⟨_, rfl⟩
        obtain ⟨o1, o2, o3, o4, o5⟩ := hok x (by rw [hx]; exact List.getElem_mem hlt)
        have hgx : (l.map stE)[i]? = some (stE x) := by
          rw [hx]
          exact get_map hlt
        obtain ⟨a, ha⟩ : ∃ a, a = x.a % v.mem.length := ⟨_, rfl⟩
        obtain ⟨b, hb⟩ : ∃ b, b = x.b % v.mem.length := ⟨_, rfl⟩
        obtain ⟨k, hk⟩ : ∃ k, k = x.n % 4 := ⟨_, rfl⟩
        have hal : a < v.mem.length := by rw [ha]; exact Nat.mod_lt _ (by omega)
        have hbl : b < v.mem.length := by rw [hb]; exact Nat.mod_lt _ (by omega)
        have hkl : k < 4 := by rw [hk]; exact Nat.mod_lt _ (by omega)
        have hne : ((v.mem.length : Nat) : Int) ≠ 0 := by omega
        have hixa : (IntKind.i64.wrap (x.a : Int)).tmod (v.mem.length : Int) = (a : Int) := by
          rw [wrap_i64 (by omega) (by omega), ha]
          rfl
        have hixb : (IntKind.i64.wrap (x.b : Int)).tmod (v.mem.length : Int) = (b : Int) := by
          rw [wrap_i64 (by omega) (by omega), hb]
          rfl
        have hixk : (IntKind.i64.wrap (x.n : Int)).tmod 4 = (k : Int) := by
          rw [wrap_i64 (by omega) (by omega), hk]
          rfl
        clear ha hb hk
        obtain ⟨t, ht⟩ : ∃ t, t = 16 * k + b := ⟨_, rfl⟩
        have hkt : okT v t := by
          refine ⟨by omega, ?_⟩
          rw [show t % 16 = b by omega]
          exact hbl
        have hmb : v.mem.getD (t % 16) 0 = v.mem[b] := by
          rw [show t % 16 = b by omega]
          simp [hbl]
        have erk : Ret Try.prog 10 [.v (.int .i64 (IntKind.i64.wrap ((IntKind.i64.wrap (x.n : Int)).tmod 4 + 1))), .v (.int .i64 v.mem[b])] (i64 (rk v t)) := by
          have h1 := r10 (IntKind.i64.wrap ((IntKind.i64.wrap (x.n : Int)).tmod 4 + 1)) v.mem[b]
          have h2 : rankOf (IntKind.i64.wrap ((IntKind.i64.wrap (x.n : Int)).tmod 4 + 1)) v.mem[b] = rk v t := by
            rw [← (rk_pos hvw hkt).2.2.2, hmb, hixk, wrap_i64 (by omega) (by omega)]
            congr 1
            omega
          rw [h2] at h1
          exact h1
        repeat' ((conv => whnf); first | refine And.intro (fun h => h) ?_ | refine dcond_t (by assumption) ?_ | refine dcond_f (by assumption) ?_ | (refine dcond_intro ?_ ?_ <;> intro h) | exact .refl | refine And.intro (by kernel_rfl) ?_ | refine And.intro ⟨fun h => h, fun h => h⟩ ?_ | refine ⟨i, stE x, And.intro ⟨rfl, hgx⟩ ?_⟩ | refine And.intro hne ?_ | refine ⟨b, intE (v.mem[b]'hbl), And.intro ⟨hixb, get_map hbl⟩ ?_⟩ | refine .inl ⟨_, _, DleAll_refl _, erk, ?_⟩ | refine ⟨_, _, DleAll_refl _, fun _ => erk, ?_⟩ | refine ⟨_, _, DleAll_refl _, erk, ?_⟩ | refine ⟨k, And.intro ⟨hixk, hkl⟩ ?_⟩ | refine ⟨b, And.intro ⟨hixb, (by omega)⟩ ?_⟩ | refine Exists.intro false ?_ | (refine And.intro ?_ ?_; focus (simp; done)) | fail)
        all_goals (conv => whnf)
        all_goals (clear erk)
        all_goals (have hgacc := acc_get hI hal)
        all_goals (have hgfast := fast_get hI hal)
        all_goals (have hla : a < (s.acc.map accE).length := by rw [List.length_map, hI.lacc]; exact hal)
        all_goals (have hlf : a < (s.fast.map fnE).length := by rw [List.length_map, hI.lfast]; exact hal)
        all_goals (obtain ⟨K, hK⟩ : ∃ K, K = x.w % cuts.length := ⟨_, rfl⟩)
        all_goals (have hKl : K < cuts.length := by rw [hK]; exact Nat.mod_lt _ hcp)
        all_goals (have hnec : ((cuts.map cutE).length : Int) ≠ 0 := by rw [List.length_map]; omega)
        all_goals (have hixw : (IntKind.i64.wrap (x.w : Int)).tmod ((cuts.map cutE).length : Int) = (K : Int) := by rw [List.length_map, wrap_i64 (by omega) (by omega), hK]; rfl)
        all_goals (obtain ⟨c, hc⟩ : ∃ c, c = cuts[K] := ⟨_, rfl⟩)
        all_goals (have hgc : (cuts.map cutE)[K]? = some (cutE c) := by rw [hc]; exact get_map hKl)
        all_goals (have hcl : c.length = 1 ∧ (nextR v c).2 = 0 := by rw [hc]; exact hck.2 _ (List.getElem_mem hKl))
        all_goals (have hcne : c ≠ [] := by intro e; rw [e] at hcl; simp at hcl)
        all_goals (clear hK hc)
        all_goals (have hac := acc_cut hI hal)
        all_goals (have htri := tri_rep (rs := s.rep) (cs := s.cho) (i := t) (by rw [hI.lrep, hI.lcho]) (by rw [hI.lrep]; exact hkt.1))
        all_goals (have hc1 : (triE s.rep s.cho)[0 + k * 32 + b * 2 + 1]? = some (.lst 1 ((choA s t).map intE) false) := by rw [show 0 + k * 32 + b * 2 + 1 = 2 * t + 1 by omega]; exact htri.2)
        all_goals (have hc0 : (triE s.rep s.cho)[0 + k * 32 + b * 2 + 0]? = some (.lst 3 ((repA s t).map rptE) false) := by rw [show 0 + k * 32 + b * 2 + 0 = 2 * t by omega]; exact htri.1)
        all_goals (clear htri)
        all_goals (have htl : (triE s.rep s.cho).length = 128 := by rw [tri_len (by rw [hI.lrep, hI.lcho]), hI.lrep])
        all_goals (have hst0 : 0 + k * 32 + b * 2 + 0 + 1 ≤ (triE s.rep s.cho).length := by rw [htl]; omega)
        all_goals (have hst1 : 0 + k * 32 + b * 2 + 1 + 1 ≤ (triE s.rep s.cho).length := by rw [htl]; omega)
        all_goals (clear htl)
        · clear h
          have ev := r14 (accA s a) (by omega) c (by omega)
          have hiv := inv_vote hvw hI hal hcne
          have eV : voteS s a c = { s with acc := s.acc.set a (voteR (accA s a) c).1, fast := s.fast.set a c } := rfl
          generalize voteR (accA s a) c = V at *
          obtain ⟨V1, V2⟩ := V
          simp only at ev hiv eV
          repeat' ((conv => whnf); first | refine And.intro (fun h => h) ?_ | refine dcond_t (by assumption) ?_ | refine dcond_f (by assumption) ?_ | (refine dcond_intro ?_ ?_ <;> intro h) | exact .refl | refine And.intro (by kernel_rfl) ?_ | refine And.intro ⟨fun h => h, fun h => h⟩ ?_ | refine ⟨i, stE x, And.intro ⟨rfl, hgx⟩ ?_⟩ | refine ⟨a, And.intro ⟨hixa, hla⟩ ?_⟩ | refine ⟨accE (accA s a), And.intro hgacc ?_⟩ | refine And.intro hnec ?_ | refine ⟨K, cutE c, And.intro ⟨hixw, hgc⟩ ?_⟩ | refine .inl ⟨_, _, DleAll_refl _, ev, ?_⟩ | refine ⟨_, _, DleAll_refl _, fun _ => ev, ?_⟩ | refine ⟨_, _, DleAll_refl _, ev, ?_⟩ | refine ⟨a, And.intro ⟨hixa, hlf⟩ ?_⟩ | refine ⟨fnE (fastA s a), And.intro hgfast ?_⟩ | refine Exists.intro false ?_ | (refine And.intro ?_ ?_; focus (simp; done)) | fail)
          all_goals (conv => whnf)
          · have hV : V2 = true := h
            clear h
            obtain ⟨hI2, hDD⟩ := hiv hV
            rw [eV] at hI2 hDD
            have hN : InvN v ({ s with acc := s.acc.set a V1, fast := s.fast.set a c } : PS) G := ⟨hI2, fun h => hDD _ (hD h), fun c' hc' => by
              rcases List.mem_or_eq_of_mem_set hc' with h | h
              · exact hF1 _ h
              · rw [h]
                omega, hd32⟩
            obtain ⟨P, hP⟩ : ∃ P : PS, P = ({ s with acc := s.acc.set a V1, fast := s.fast.set a c } : PS) := ⟨_, rfl⟩
            rw [← hP] at hN
            obtain ⟨hI2, hD2, hF2, hd2⟩ := hN
            have hFl : ∀ j, (fastA P j).length ≤ 1 := fun j => fast_one hF2 j
            refine ⟨Nat × List Int, fun y => ⟨[(1, .lst 5 (l.map stE) false), (2, .lp 0 0), (5, .lst 1 (cuts.map cutE) false), (6, i64 v.mem.length), (7, .own 1), (8, .own 2), (10, .lp 3 0), (11, .lp 4 0), (12, .lst 1 (y.2.map intE) false), (13, i64 i), (29, i64 y.1)], [.cells 44 (viewE v), .row 28 3 (P.acc.map accE), .row 26 1 (P.fast.map fnE), .cells 63 (triE P.rep P.cho), .cells 65 (P.took.map i64)]⟩, fun y => y.1 ≤ v.mem.length ∧ (y.2 ≠ [] → Dec v P G y.2) ∧ y.2.length ≤ 32, fun y => v.mem.length - y.1, [], ⟨(0, P.dec), ⟨Nat.zero_le _, hD2, hd2⟩, ?_⟩, ?_⟩
            · subst hP
              conv => whnf
              refine ⟨⟨.refl, .refl, .refl, .refl, .refl, .refl, .refl, .refl, .refl, .refl, .refl, trivial⟩, ⟨.refl, ?_, ?_, ?_, ?_, trivial⟩, bnd9 rfl rfl rfl⟩
              · refine ole_row (show (s.acc.map accE).set a (accE V1) = _ from ?_)
                rw [List.map_set]
              · refine ole_row (show (s.fast.map fnE).set a [DV.lst 1 (c.map intE) false] = _ from ?_)
                rw [List.map_set, fnE, cutN_ne hcne]
              · exact .refl
              · exact .refl
            · clear hP
              intro ⟨j, dc⟩ ⟨hj, hjd, hjl⟩
              simp only at hj hjd hjl
              conv => whnf
              refine dcond_intro ?_ ?_ <;> intro h
              · have hjlt : j < v.mem.length := by simpa using h
                clear h
                have hlfj : j < (P.fast.map fnE).length := by rw [List.length_map, hI2.lfast]; exact hjlt
                have hgj := fast_get hI2 hjlt
                obtain ⟨fj, hfj⟩ : ∃ fj, fj = fastA P j := ⟨_, rfl⟩
                have hfl : fj.length ≤ 1 := by rw [hfj]; exact hFl j
                rw [← hfj] at hgj
                conv => whnf
                refine ⟨Nat, fun m => ⟨[(1, .lst 5 (l.map stE) false), (2, .lp 0 0), (5, .lst 1 (cuts.map cutE) false), (6, i64 v.mem.length), (7, .own 1), (8, .own 2), (10, .lp 3 0), (11, .lp 4 0), (12, .lst 1 (dc.map intE) false), (13, i64 i), (29, i64 j), (30, i64 (voteC P fj m)), (31, i64 m)], [.cells 44 (viewE v), .row 28 3 (P.acc.map accE), .row 26 1 (P.fast.map fnE), .cells 63 (triE P.rep P.cho), .cells 65 (P.took.map i64)]⟩, fun m => m ≤ v.mem.length, fun m => v.mem.length - m, [], ⟨0, Nat.zero_le _, ?_⟩, ?_⟩
                · conv => whnf
                  exact ⟨⟨.refl, .refl, .refl, .refl, .refl, .refl, .refl, .refl, .refl, .refl, .refl, dle_int (voteC_zero _ _).symm, .refl, trivial⟩, ⟨.refl, .refl, .refl, .refl, .refl, trivial⟩, bnd9 rfl rfl rfl⟩
                · intro m hm
                  conv => whnf
                  refine dcond_intro ?_ ?_ <;> intro h
                  · have hmlt : m < v.mem.length := by simpa using h
                    clear h
                    have hlfm : m < (P.fast.map fnE).length := by rw [List.length_map, hI2.lfast]; exact hmlt
                    have hgm := fast_get hI2 hmlt
                    have hvs := voteC_succ P fj m
                    have hvl := voteC_le P fj m
                    obtain ⟨fm, hfm⟩ : ∃ fm, fm = fastA P m := ⟨_, rfl⟩
                    rw [← hfm] at hgm hvs
                    have e23 := r23 fj fm (by simp only [maxLen]; omega)
                    clear hfj hfm
                    rcases fnE_cases fj with ⟨ej, h0⟩ | ⟨ej, h0⟩ <;> rcases fnE_cases fm with ⟨em, h1⟩ | ⟨em, h1⟩
                    · rw [ej] at hgj
                      rw [em] at hgm
                      subst h0
                      subst h1
                      repeat' ((conv => whnf); first | refine And.intro (fun h => h) ?_ | refine dcond_t (by assumption) ?_ | refine dcond_f (by assumption) ?_ | (refine dcond_intro ?_ ?_ <;> intro h) | exact .refl | refine And.intro (by kernel_rfl) ?_ | refine And.intro ⟨fun h => h, fun h => h⟩ ?_ | refine ⟨j, And.intro ⟨rfl, hlfj⟩ ?_⟩ | refine ⟨j, And.intro ⟨⟨fun h => h, fun h => h⟩, fun hg => ⟨rfl, hlfj⟩⟩ ?_⟩ | refine ⟨m, And.intro ⟨⟨fun h => h, fun h => h⟩, fun hg => ⟨rfl, hlfm⟩⟩ ?_⟩ | refine ⟨[DV.nl], And.intro hgj ?_⟩ | refine ⟨[DV.nl], And.intro ⟨fun h => h, fun _ => hgj⟩ ?_⟩ | refine ⟨[DV.nl], And.intro hgm ?_⟩ | refine ⟨[DV.nl], And.intro ⟨fun h => h, fun _ => hgm⟩ ?_⟩ | refine ⟨[.lst 1 (([] : List Int).map intE) false, .lst 1 (([] : List Int).map intE) false], _, ⟨.nl, .nl, trivial⟩, fun _ => e23, ?_⟩ | refine Exists.intro false ?_ | (refine And.intro ?_ ?_; focus (simp; done)) | fail)
                      all_goals (conv => whnf)
                      refine ⟨m + 1, hmlt, by simp only []; omega, ?_⟩
                      conv => whnf
                      exact ⟨⟨.refl, .refl, .refl, .refl, .refl, .refl, .refl, .refl, .refl, .refl, .refl, dle_int (by rw [hvs]; simp), dle_int (wrap_succ (by omega)), trivial⟩, ⟨.refl, .refl, .refl, .refl, .refl, trivial⟩, bnd9 rfl rfl rfl⟩
                    · rw [ej] at hgj
                      rw [em] at hgm
                      subst h0
                      repeat' ((conv => whnf); first | refine And.intro (fun h => h) ?_ | refine dcond_t (by assumption) ?_ | refine dcond_f (by assumption) ?_ | (refine dcond_intro ?_ ?_ <;> intro h) | exact .refl | refine And.intro (by kernel_rfl) ?_ | refine And.intro ⟨fun h => h, fun h => h⟩ ?_ | refine ⟨j, And.intro ⟨rfl, hlfj⟩ ?_⟩ | refine ⟨j, And.intro ⟨⟨fun h => h, fun h => h⟩, fun hg => ⟨rfl, hlfj⟩⟩ ?_⟩ | refine ⟨m, And.intro ⟨⟨fun h => h, fun h => h⟩, fun hg => ⟨rfl, hlfm⟩⟩ ?_⟩ | refine ⟨[DV.nl], And.intro hgj ?_⟩ | refine ⟨[DV.nl], And.intro ⟨fun h => h, fun _ => hgj⟩ ?_⟩ | refine ⟨[DV.lst 1 (fm.map intE) false], And.intro hgm ?_⟩ | refine ⟨[DV.lst 1 (fm.map intE) false], And.intro ⟨fun h => h, fun _ => hgm⟩ ?_⟩ | refine ⟨[.lst 1 (([] : List Int).map intE) false, .lst 1 ((fm : List Int).map intE) false], _, ⟨.nl, .refl, trivial⟩, fun _ => e23, ?_⟩ | refine Exists.intro false ?_ | (refine And.intro ?_ ?_; focus (simp; done)) | fail)
                      all_goals (conv => whnf)
                      refine ⟨m + 1, hmlt, by simp only []; omega, ?_⟩
                      conv => whnf
                      exact ⟨⟨.refl, .refl, .refl, .refl, .refl, .refl, .refl, .refl, .refl, .refl, .refl, dle_int (by rw [hvs]; simp), dle_int (wrap_succ (by omega)), trivial⟩, ⟨.refl, .refl, .refl, .refl, .refl, trivial⟩, bnd9 rfl rfl rfl⟩
                    · rw [ej] at hgj
                      rw [em] at hgm
                      subst h1
                      repeat' ((conv => whnf); first | refine And.intro (fun h => h) ?_ | refine dcond_t (by assumption) ?_ | refine dcond_f (by assumption) ?_ | (refine dcond_intro ?_ ?_ <;> intro h) | exact .refl | refine And.intro (by kernel_rfl) ?_ | refine And.intro ⟨fun h => h, fun h => h⟩ ?_ | refine ⟨j, And.intro ⟨rfl, hlfj⟩ ?_⟩ | refine ⟨j, And.intro ⟨⟨fun h => h, fun h => h⟩, fun hg => ⟨rfl, hlfj⟩⟩ ?_⟩ | refine ⟨m, And.intro ⟨⟨fun h => h, fun h => h⟩, fun hg => ⟨rfl, hlfm⟩⟩ ?_⟩ | refine ⟨[DV.lst 1 (fj.map intE) false], And.intro hgj ?_⟩ | refine ⟨[DV.lst 1 (fj.map intE) false], And.intro ⟨fun h => h, fun _ => hgj⟩ ?_⟩ | refine ⟨[DV.nl], And.intro hgm ?_⟩ | refine ⟨[DV.nl], And.intro ⟨fun h => h, fun _ => hgm⟩ ?_⟩ | refine ⟨[.lst 1 ((fj : List Int).map intE) false, .lst 1 (([] : List Int).map intE) false], _, ⟨.refl, .nl, trivial⟩, fun _ => e23, ?_⟩ | refine Exists.intro false ?_ | (refine And.intro ?_ ?_; focus (simp; done)) | fail)
                      all_goals (conv => whnf)
                      · have he := sameI_iff.1 ((Bool.and_eq_true ..).mp h).2
                        clear h
                        refine ⟨m + 1, hmlt, by simp only []; omega, ?_⟩
                        conv => whnf
                        exact ⟨⟨.refl, .refl, .refl, .refl, .refl, .refl, .refl, .refl, .refl, .refl, .refl, dle_int (by rw [hvs, if_pos ⟨h0, he.symm⟩, wrap_i64 (by omega) (by omega)]), dle_int (wrap_succ (by omega)), trivial⟩, ⟨.refl, .refl, .refl, .refl, .refl, trivial⟩, bnd9 rfl rfl rfl⟩
                      · have he : ¬ (fj ≠ [] ∧ [] = fj) := fun hh => by
                          have h5 : 0 < fj.length := List.length_pos_iff.2 h0
                          rw [hh.2, List.length_map, sameI_iff.2 rfl] at h
                          simp at h
                          exact h0 h
                        clear h
                        refine ⟨m + 1, hmlt, by simp only []; omega, ?_⟩
                        conv => whnf
                        exact ⟨⟨.refl, .refl, .refl, .refl, .refl, .refl, .refl, .refl, .refl, .refl, .refl, dle_int (by rw [hvs, if_neg he, Int.add_zero]), dle_int (wrap_succ (by omega)), trivial⟩, ⟨.refl, .refl, .refl, .refl, .refl, trivial⟩, bnd9 rfl rfl rfl⟩
                    · rw [ej] at hgj
                      rw [em] at hgm
                      repeat' ((conv => whnf); first | refine And.intro (fun h => h) ?_ | refine dcond_t (by assumption) ?_ | refine dcond_f (by assumption) ?_ | (refine dcond_intro ?_ ?_ <;> intro h) | exact .refl | refine And.intro (by kernel_rfl) ?_ | refine And.intro ⟨fun h => h, fun h => h⟩ ?_ | refine ⟨j, And.intro ⟨rfl, hlfj⟩ ?_⟩ | refine ⟨j, And.intro ⟨⟨fun h => h, fun h => h⟩, fun hg => ⟨rfl, hlfj⟩⟩ ?_⟩ | refine ⟨m, And.intro ⟨⟨fun h => h, fun h => h⟩, fun hg => ⟨rfl, hlfm⟩⟩ ?_⟩ | refine ⟨[DV.lst 1 (fj.map intE) false], And.intro hgj ?_⟩ | refine ⟨[DV.lst 1 (fj.map intE) false], And.intro ⟨fun h => h, fun _ => hgj⟩ ?_⟩ | refine ⟨[DV.lst 1 (fm.map intE) false], And.intro hgm ?_⟩ | refine ⟨[DV.lst 1 (fm.map intE) false], And.intro ⟨fun h => h, fun _ => hgm⟩ ?_⟩ | refine ⟨[.lst 1 ((fj : List Int).map intE) false, .lst 1 ((fm : List Int).map intE) false], _, ⟨.refl, .refl, trivial⟩, fun _ => e23, ?_⟩ | refine Exists.intro false ?_ | (refine And.intro ?_ ?_; focus (simp; done)) | fail)
                      all_goals (conv => whnf)
                      · have he := sameI_iff.1 ((Bool.and_eq_true ..).mp h).2
                        clear h
                        refine ⟨m + 1, hmlt, by simp only []; omega, ?_⟩
                        conv => whnf
                        exact ⟨⟨.refl, .refl, .refl, .refl, .refl, .refl, .refl, .refl, .refl, .refl, .refl, dle_int (by rw [hvs, if_pos ⟨h0, he.symm⟩, wrap_i64 (by omega) (by omega)]), dle_int (wrap_succ (by omega)), trivial⟩, ⟨.refl, .refl, .refl, .refl, .refl, trivial⟩, bnd9 rfl rfl rfl⟩
                      · have he : ¬ (fj ≠ [] ∧ fm = fj) := fun hh => by
                          have h5 : 0 < fj.length := List.length_pos_iff.2 h0
                          rw [hh.2, List.length_map, sameI_iff.2 rfl] at h
                          simp at h
                          exact h0 h
                        clear h
                        refine ⟨m + 1, hmlt, by simp only []; omega, ?_⟩
                        conv => whnf
                        exact ⟨⟨.refl, .refl, .refl, .refl, .refl, .refl, .refl, .refl, .refl, .refl, .refl, dle_int (by rw [hvs, if_neg he, Int.add_zero]), dle_int (wrap_succ (by omega)), trivial⟩, ⟨.refl, .refl, .refl, .refl, .refl, trivial⟩, bnd9 rfl rfl rfl⟩
                  · have hmn : m = v.mem.length := by
                      simp at h
                      omega
                    subst hmn
                    clear h
                    conv => whnf
                    refine And.intro (by decide) ?_
                    conv => whnf
                    refine dcond_intro ?_ ?_ <;> intro h
                    · have hfv := of_decide_eq_true h
                      clear h
                      rw [quo9 hn.1 hn.2] at hfv
                      obtain ⟨h0, hDj⟩ : fj ≠ [] ∧ Dec v P G fj := by
                        unfold voteC at hfv
                        have hne : fj ≠ [] := by
                          intro e
                          rw [if_pos e] at hfv
                          omega
                        rw [if_neg hne] at hfv
                        exact ⟨hne, hne, .inr (by omega)⟩
                      have ej : fnE fj = [.lst 1 (fj.map intE) false] := by
                        rcases fnE_cases fj with ⟨_, h⟩ | ⟨h, _⟩
                        · exact absurd h h0
                        · exact h
                      rw [ej] at hgj
                      have e23 := r23 dc fj (by simp only [maxLen]; omega)
                      repeat' ((conv => whnf); first | refine And.intro (fun h => h) ?_ | refine dcond_t (by assumption) ?_ | refine dcond_f (by assumption) ?_ | (refine dcond_intro ?_ ?_ <;> intro h) | exact .refl | refine And.intro (by kernel_rfl) ?_ | refine And.intro ⟨fun h => h, fun h => h⟩ ?_ | refine ⟨j, And.intro ⟨rfl, hlfj⟩ ?_⟩ | refine ⟨j, And.intro ⟨⟨fun h => h, fun h => h⟩, fun hg => ⟨rfl, hlfj⟩⟩ ?_⟩ | refine ⟨[DV.lst 1 (fj.map intE) false], And.intro hgj ?_⟩ | refine ⟨[DV.lst 1 (fj.map intE) false], And.intro ⟨fun h => h, fun _ => hgj⟩ ?_⟩ | refine .inl ⟨_, _, DleAll_refl _, e23, ?_⟩ | refine ⟨_, _, DleAll_refl _, fun _ => e23, ?_⟩ | refine ⟨_, _, DleAll_refl _, e23, ?_⟩ | refine Exists.intro false ?_ | (refine And.intro ?_ ?_; focus (simp; done)) | fail)
                      all_goals (conv => whnf)
                      · exfalso
                        have hne : dc ≠ [] := fun e => by
                          rw [e] at h
                          exact absurd h (by simp)
                        rw [dec_same hvw hI2 (hjd hne) hDj, sameI_iff.2 rfl] at h
                        simp at h
                      · clear h
                        refine ⟨(j + 1, fj), ⟨hjlt, fun _ => hDj, by simp only []; omega⟩, by simp only []; omega, ?_⟩
                        conv => whnf
                        exact ⟨⟨.refl, .refl, .refl, .refl, .refl, .refl, .refl, .refl, .refl, .refl, dle_int (wrap_succ (by omega)), trivial⟩, ⟨.refl, .refl, .refl, .refl, .refl, trivial⟩, bnd9 rfl rfl rfl⟩
                    · refine ⟨(j + 1, dc), ⟨hjlt, hjd, hjl⟩, by simp only []; omega, ?_⟩
                      conv => whnf
                      exact ⟨⟨.refl, .refl, .refl, .refl, .refl, .refl, .refl, .refl, .refl, .refl, dle_int (wrap_succ (by omega)), trivial⟩, ⟨.refl, .refl, .refl, .refl, .refl, trivial⟩, bnd9 rfl rfl rfl⟩
              · clear h
                conv => whnf
                refine ⟨(i + 1, { P with dec := dc }), ⟨hlt, G, inv_dec hI2 dc, hjd, hF2, hjl⟩, by simp only []; omega, ?_⟩
                conv => whnf
                exact ⟨⟨.refl, .refl, .refl, .refl, .refl, .refl, .refl, .refl, .refl, dle_int (wrap_succ (by omega)), trivial⟩, ⟨.refl, .refl, .refl, .refl, .refl, trivial⟩, bnd9 rfl rfl rfl⟩
          · clear h
            have hN : InvN v s G := ⟨hI, hD, hF1, hd32⟩
            obtain ⟨P, hP⟩ : ∃ P : PS, P = s := ⟨_, rfl⟩
            rw [← hP] at hN
            obtain ⟨hI2, hD2, hF2, hd2⟩ := hN
            have hFl : ∀ j, (fastA P j).length ≤ 1 := fun j => fast_one hF2 j
            refine ⟨Nat × List Int, fun y => ⟨[(1, .lst 5 (l.map stE) false), (2, .lp 0 0), (5, .lst 1 (cuts.map cutE) false), (6, i64 v.mem.length), (7, .own 1), (8, .own 2), (10, .lp 3 0), (11, .lp 4 0), (12, .lst 1 (y.2.map intE) false), (13, i64 i), (29, i64 y.1)], [.cells 44 (viewE v), .row 28 3 (P.acc.map accE), .row 26 1 (P.fast.map fnE), .cells 63 (triE P.rep P.cho), .cells 65 (P.took.map i64)]⟩, fun y => y.1 ≤ v.mem.length ∧ (y.2 ≠ [] → Dec v P G y.2) ∧ y.2.length ≤ 32, fun y => v.mem.length - y.1, [], ⟨(0, P.dec), ⟨Nat.zero_le _, hD2, hd2⟩, ?_⟩, ?_⟩
            · subst hP
              conv => whnf
              refine ⟨⟨.refl, .refl, .refl, .refl, .refl, .refl, .refl, .refl, .refl, .refl, .refl, trivial⟩, ⟨.refl, ?_, ?_, ?_, ?_, trivial⟩, bnd9 rfl rfl rfl⟩
              · exact .refl
              · exact .refl
              · exact .refl
              · exact .refl
            · clear hP
              intro ⟨j, dc⟩ ⟨hj, hjd, hjl⟩
              simp only at hj hjd hjl
              conv => whnf
              refine dcond_intro ?_ ?_ <;> intro h
              · have hjlt : j < v.mem.length := by simpa using h
                clear h
                have hlfj : j < (P.fast.map fnE).length := by rw [List.length_map, hI2.lfast]; exact hjlt
                have hgj := fast_get hI2 hjlt
                obtain ⟨fj, hfj⟩ : ∃ fj, fj = fastA P j := ⟨_, rfl⟩
                have hfl : fj.length ≤ 1 := by rw [hfj]; exact hFl j
                rw [← hfj] at hgj
                conv => whnf
                refine ⟨Nat, fun m => ⟨[(1, .lst 5 (l.map stE) false), (2, .lp 0 0), (5, .lst 1 (cuts.map cutE) false), (6, i64 v.mem.length), (7, .own 1), (8, .own 2), (10, .lp 3 0), (11, .lp 4 0), (12, .lst 1 (dc.map intE) false), (13, i64 i), (29, i64 j), (30, i64 (voteC P fj m)), (31, i64 m)], [.cells 44 (viewE v), .row 28 3 (P.acc.map accE), .row 26 1 (P.fast.map fnE), .cells 63 (triE P.rep P.cho), .cells 65 (P.took.map i64)]⟩, fun m => m ≤ v.mem.length, fun m => v.mem.length - m, [], ⟨0, Nat.zero_le _, ?_⟩, ?_⟩
                · conv => whnf
                  exact ⟨⟨.refl, .refl, .refl, .refl, .refl, .refl, .refl, .refl, .refl, .refl, .refl, dle_int (voteC_zero _ _).symm, .refl, trivial⟩, ⟨.refl, .refl, .refl, .refl, .refl, trivial⟩, bnd9 rfl rfl rfl⟩
                · intro m hm
                  conv => whnf
                  refine dcond_intro ?_ ?_ <;> intro h
                  · have hmlt : m < v.mem.length := by simpa using h
                    clear h
                    have hlfm : m < (P.fast.map fnE).length := by rw [List.length_map, hI2.lfast]; exact hmlt
                    have hgm := fast_get hI2 hmlt
                    have hvs := voteC_succ P fj m
                    have hvl := voteC_le P fj m
                    obtain ⟨fm, hfm⟩ : ∃ fm, fm = fastA P m := ⟨_, rfl⟩
                    rw [← hfm] at hgm hvs
                    have e23 := r23 fj fm (by simp only [maxLen]; omega)
                    clear hfj hfm
                    rcases fnE_cases fj with ⟨ej, h0⟩ | ⟨ej, h0⟩ <;> rcases fnE_cases fm with ⟨em, h1⟩ | ⟨em, h1⟩
                    · rw [ej] at hgj
                      rw [em] at hgm
                      subst h0
                      subst h1
                      repeat' ((conv => whnf); first | refine And.intro (fun h => h) ?_ | refine dcond_t (by assumption) ?_ | refine dcond_f (by assumption) ?_ | (refine dcond_intro ?_ ?_ <;> intro h) | exact .refl | refine And.intro (by kernel_rfl) ?_ | refine And.intro ⟨fun h => h, fun h => h⟩ ?_ | refine ⟨j, And.intro ⟨rfl, hlfj⟩ ?_⟩ | refine ⟨j, And.intro ⟨⟨fun h => h, fun h => h⟩, fun hg => ⟨rfl, hlfj⟩⟩ ?_⟩ | refine ⟨m, And.intro ⟨⟨fun h => h, fun h => h⟩, fun hg => ⟨rfl, hlfm⟩⟩ ?_⟩ | refine ⟨[DV.nl], And.intro hgj ?_⟩ | refine ⟨[DV.nl], And.intro ⟨fun h => h, fun _ => hgj⟩ ?_⟩ | refine ⟨[DV.nl], And.intro hgm ?_⟩ | refine ⟨[DV.nl], And.intro ⟨fun h => h, fun _ => hgm⟩ ?_⟩ | refine ⟨[.lst 1 (([] : List Int).map intE) false, .lst 1 (([] : List Int).map intE) false], _, ⟨.nl, .nl, trivial⟩, fun _ => e23, ?_⟩ | refine Exists.intro false ?_ | (refine And.intro ?_ ?_; focus (simp; done)) | fail)
                      all_goals (conv => whnf)
                      refine ⟨m + 1, hmlt, by simp only []; omega, ?_⟩
                      conv => whnf
                      exact ⟨⟨.refl, .refl, .refl, .refl, .refl, .refl, .refl, .refl, .refl, .refl, .refl, dle_int (by rw [hvs]; simp), dle_int (wrap_succ (by omega)), trivial⟩, ⟨.refl, .refl, .refl, .refl, .refl, trivial⟩, bnd9 rfl rfl rfl⟩
                    · rw [ej] at hgj
                      rw [em] at hgm
                      subst h0
                      repeat' ((conv => whnf); first | refine And.intro (fun h => h) ?_ | refine dcond_t (by assumption) ?_ | refine dcond_f (by assumption) ?_ | (refine dcond_intro ?_ ?_ <;> intro h) | exact .refl | refine And.intro (by kernel_rfl) ?_ | refine And.intro ⟨fun h => h, fun h => h⟩ ?_ | refine ⟨j, And.intro ⟨rfl, hlfj⟩ ?_⟩ | refine ⟨j, And.intro ⟨⟨fun h => h, fun h => h⟩, fun hg => ⟨rfl, hlfj⟩⟩ ?_⟩ | refine ⟨m, And.intro ⟨⟨fun h => h, fun h => h⟩, fun hg => ⟨rfl, hlfm⟩⟩ ?_⟩ | refine ⟨[DV.nl], And.intro hgj ?_⟩ | refine ⟨[DV.nl], And.intro ⟨fun h => h, fun _ => hgj⟩ ?_⟩ | refine ⟨[DV.lst 1 (fm.map intE) false], And.intro hgm ?_⟩ | refine ⟨[DV.lst 1 (fm.map intE) false], And.intro ⟨fun h => h, fun _ => hgm⟩ ?_⟩ | refine ⟨[.lst 1 (([] : List Int).map intE) false, .lst 1 ((fm : List Int).map intE) false], _, ⟨.nl, .refl, trivial⟩, fun _ => e23, ?_⟩ | refine Exists.intro false ?_ | (refine And.intro ?_ ?_; focus (simp; done)) | fail)
                      all_goals (conv => whnf)
                      refine ⟨m + 1, hmlt, by simp only []; omega, ?_⟩
                      conv => whnf
                      exact ⟨⟨.refl, .refl, .refl, .refl, .refl, .refl, .refl, .refl, .refl, .refl, .refl, dle_int (by rw [hvs]; simp), dle_int (wrap_succ (by omega)), trivial⟩, ⟨.refl, .refl, .refl, .refl, .refl, trivial⟩, bnd9 rfl rfl rfl⟩
                    · rw [ej] at hgj
                      rw [em] at hgm
                      subst h1
                      repeat' ((conv => whnf); first | refine And.intro (fun h => h) ?_ | refine dcond_t (by assumption) ?_ | refine dcond_f (by assumption) ?_ | (refine dcond_intro ?_ ?_ <;> intro h) | exact .refl | refine And.intro (by kernel_rfl) ?_ | refine And.intro ⟨fun h => h, fun h => h⟩ ?_ | refine ⟨j, And.intro ⟨rfl, hlfj⟩ ?_⟩ | refine ⟨j, And.intro ⟨⟨fun h => h, fun h => h⟩, fun hg => ⟨rfl, hlfj⟩⟩ ?_⟩ | refine ⟨m, And.intro ⟨⟨fun h => h, fun h => h⟩, fun hg => ⟨rfl, hlfm⟩⟩ ?_⟩ | refine ⟨[DV.lst 1 (fj.map intE) false], And.intro hgj ?_⟩ | refine ⟨[DV.lst 1 (fj.map intE) false], And.intro ⟨fun h => h, fun _ => hgj⟩ ?_⟩ | refine ⟨[DV.nl], And.intro hgm ?_⟩ | refine ⟨[DV.nl], And.intro ⟨fun h => h, fun _ => hgm⟩ ?_⟩ | refine ⟨[.lst 1 ((fj : List Int).map intE) false, .lst 1 (([] : List Int).map intE) false], _, ⟨.refl, .nl, trivial⟩, fun _ => e23, ?_⟩ | refine Exists.intro false ?_ | (refine And.intro ?_ ?_; focus (simp; done)) | fail)
                      all_goals (conv => whnf)
                      · have he := sameI_iff.1 ((Bool.and_eq_true ..).mp h).2
                        clear h
                        refine ⟨m + 1, hmlt, by simp only []; omega, ?_⟩
                        conv => whnf
                        exact ⟨⟨.refl, .refl, .refl, .refl, .refl, .refl, .refl, .refl, .refl, .refl, .refl, dle_int (by rw [hvs, if_pos ⟨h0, he.symm⟩, wrap_i64 (by omega) (by omega)]), dle_int (wrap_succ (by omega)), trivial⟩, ⟨.refl, .refl, .refl, .refl, .refl, trivial⟩, bnd9 rfl rfl rfl⟩
                      · have he : ¬ (fj ≠ [] ∧ [] = fj) := fun hh => by
                          have h5 : 0 < fj.length := List.length_pos_iff.2 h0
                          rw [hh.2, List.length_map, sameI_iff.2 rfl] at h
                          simp at h
                          exact h0 h
                        clear h
                        refine ⟨m + 1, hmlt, by simp only []; omega, ?_⟩
                        conv => whnf
                        exact ⟨⟨.refl, .refl, .refl, .refl, .refl, .refl, .refl, .refl, .refl, .refl, .refl, dle_int (by rw [hvs, if_neg he, Int.add_zero]), dle_int (wrap_succ (by omega)), trivial⟩, ⟨.refl, .refl, .refl, .refl, .refl, trivial⟩, bnd9 rfl rfl rfl⟩
                    · rw [ej] at hgj
                      rw [em] at hgm
                      repeat' ((conv => whnf); first | refine And.intro (fun h => h) ?_ | refine dcond_t (by assumption) ?_ | refine dcond_f (by assumption) ?_ | (refine dcond_intro ?_ ?_ <;> intro h) | exact .refl | refine And.intro (by kernel_rfl) ?_ | refine And.intro ⟨fun h => h, fun h => h⟩ ?_ | refine ⟨j, And.intro ⟨rfl, hlfj⟩ ?_⟩ | refine ⟨j, And.intro ⟨⟨fun h => h, fun h => h⟩, fun hg => ⟨rfl, hlfj⟩⟩ ?_⟩ | refine ⟨m, And.intro ⟨⟨fun h => h, fun h => h⟩, fun hg => ⟨rfl, hlfm⟩⟩ ?_⟩ | refine ⟨[DV.lst 1 (fj.map intE) false], And.intro hgj ?_⟩ | refine ⟨[DV.lst 1 (fj.map intE) false], And.intro ⟨fun h => h, fun _ => hgj⟩ ?_⟩ | refine ⟨[DV.lst 1 (fm.map intE) false], And.intro hgm ?_⟩ | refine ⟨[DV.lst 1 (fm.map intE) false], And.intro ⟨fun h => h, fun _ => hgm⟩ ?_⟩ | refine ⟨[.lst 1 ((fj : List Int).map intE) false, .lst 1 ((fm : List Int).map intE) false], _, ⟨.refl, .refl, trivial⟩, fun _ => e23, ?_⟩ | refine Exists.intro false ?_ | (refine And.intro ?_ ?_; focus (simp; done)) | fail)
                      all_goals (conv => whnf)
                      · have he := sameI_iff.1 ((Bool.and_eq_true ..).mp h).2
                        clear h
                        refine ⟨m + 1, hmlt, by simp only []; omega, ?_⟩
                        conv => whnf
                        exact ⟨⟨.refl, .refl, .refl, .refl, .refl, .refl, .refl, .refl, .refl, .refl, .refl, dle_int (by rw [hvs, if_pos ⟨h0, he.symm⟩, wrap_i64 (by omega) (by omega)]), dle_int (wrap_succ (by omega)), trivial⟩, ⟨.refl, .refl, .refl, .refl, .refl, trivial⟩, bnd9 rfl rfl rfl⟩
                      · have he : ¬ (fj ≠ [] ∧ fm = fj) := fun hh => by
                          have h5 : 0 < fj.length := List.length_pos_iff.2 h0
                          rw [hh.2, List.length_map, sameI_iff.2 rfl] at h
                          simp at h
                          exact h0 h
                        clear h
                        refine ⟨m + 1, hmlt, by simp only []; omega, ?_⟩
                        conv => whnf
                        exact ⟨⟨.refl, .refl, .refl, .refl, .refl, .refl, .refl, .refl, .refl, .refl, .refl, dle_int (by rw [hvs, if_neg he, Int.add_zero]), dle_int (wrap_succ (by omega)), trivial⟩, ⟨.refl, .refl, .refl, .refl, .refl, trivial⟩, bnd9 rfl rfl rfl⟩
                  · have hmn : m = v.mem.length := by
                      simp at h
                      omega
                    subst hmn
                    clear h
                    conv => whnf
                    refine And.intro (by decide) ?_
                    conv => whnf
                    refine dcond_intro ?_ ?_ <;> intro h
                    · have hfv := of_decide_eq_true h
                      clear h
                      rw [quo9 hn.1 hn.2] at hfv
                      obtain ⟨h0, hDj⟩ : fj ≠ [] ∧ Dec v P G fj := by
                        unfold voteC at hfv
                        have hne : fj ≠ [] := by
                          intro e
                          rw [if_pos e] at hfv
                          omega
                        rw [if_neg hne] at hfv
                        exact ⟨hne, hne, .inr (by omega)⟩
                      have ej : fnE fj = [.lst 1 (fj.map intE) false] := by
                        rcases fnE_cases fj with ⟨_, h⟩ | ⟨h, _⟩
                        · exact absurd h h0
                        · exact h
                      rw [ej] at hgj
                      have e23 := r23 dc fj (by simp only [maxLen]; omega)
                      repeat' ((conv => whnf); first | refine And.intro (fun h => h) ?_ | refine dcond_t (by assumption) ?_ | refine dcond_f (by assumption) ?_ | (refine dcond_intro ?_ ?_ <;> intro h) | exact .refl | refine And.intro (by kernel_rfl) ?_ | refine And.intro ⟨fun h => h, fun h => h⟩ ?_ | refine ⟨j, And.intro ⟨rfl, hlfj⟩ ?_⟩ | refine ⟨j, And.intro ⟨⟨fun h => h, fun h => h⟩, fun hg => ⟨rfl, hlfj⟩⟩ ?_⟩ | refine ⟨[DV.lst 1 (fj.map intE) false], And.intro hgj ?_⟩ | refine ⟨[DV.lst 1 (fj.map intE) false], And.intro ⟨fun h => h, fun _ => hgj⟩ ?_⟩ | refine .inl ⟨_, _, DleAll_refl _, e23, ?_⟩ | refine ⟨_, _, DleAll_refl _, fun _ => e23, ?_⟩ | refine ⟨_, _, DleAll_refl _, e23, ?_⟩ | refine Exists.intro false ?_ | (refine And.intro ?_ ?_; focus (simp; done)) | fail)
                      all_goals (conv => whnf)
                      · exfalso
                        have hne : dc ≠ [] := fun e => by
                          rw [e] at h
                          exact absurd h (by simp)
                        rw [dec_same hvw hI2 (hjd hne) hDj, sameI_iff.2 rfl] at h
                        simp at h
                      · clear h
                        refine ⟨(j + 1, fj), ⟨hjlt, fun _ => hDj, by simp only []; omega⟩, by simp only []; omega, ?_⟩
                        conv => whnf
                        exact ⟨⟨.refl, .refl, .refl, .refl, .refl, .refl, .refl, .refl, .refl, .refl, dle_int (wrap_succ (by omega)), trivial⟩, ⟨.refl, .refl, .refl, .refl, .refl, trivial⟩, bnd9 rfl rfl rfl⟩
                    · refine ⟨(j + 1, dc), ⟨hjlt, hjd, hjl⟩, by simp only []; omega, ?_⟩
                      conv => whnf
                      exact ⟨⟨.refl, .refl, .refl, .refl, .refl, .refl, .refl, .refl, .refl, .refl, dle_int (wrap_succ (by omega)), trivial⟩, ⟨.refl, .refl, .refl, .refl, .refl, trivial⟩, bnd9 rfl rfl rfl⟩
              · clear h
                conv => whnf
                refine ⟨(i + 1, { P with dec := dc }), ⟨hlt, G, inv_dec hI2 dc, hjd, hF2, hjl⟩, by simp only []; omega, ?_⟩
                conv => whnf
                exact ⟨⟨.refl, .refl, .refl, .refl, .refl, .refl, .refl, .refl, .refl, dle_int (wrap_succ (by omega)), trivial⟩, ⟨.refl, .refl, .refl, .refl, .refl, trivial⟩, bnd9 rfl rfl rfl⟩
        · clear h
          have ev := r16 (accA s a) (by omega) (rk v t)
          have hiv := inv_prep hvw hI hal hkt
          have eV : prepS v s a t = { s with acc := s.acc.set a (prepR (accA s a) (rk v t)).1, rep := s.rep.set t (addR v (repA s t) ⟨v.mem.getD a 0, (prepR (accA s a) (rk v t)).2.1.rank, (prepR (accA s a) (rk v t)).2.1.cut⟩).1 } := rfl
          have hV1c : (prepR (accA s a) (rk v t)).2.1.cut.length ≤ 32 := (prep_len hac).2
          generalize prepR (accA s a) (rk v t) = V at *
          obtain ⟨V1, V2, V3⟩ := V
          simp only at ev hiv eV hV1c
          have hma : v.mem.getD a 0 = v.mem[a] := by simp [hal]
          have hr16 := rep_16 hvw hI hkt
          have hrc := rep_cut hvw hI hkt
          have er := r30 v (by omega) (repA s t) (by omega) (fun r hr => Nat.le_trans (hrc r hr) (by decide)) ⟨v.mem[a], V2.rank, V2.cut⟩ (by simp only []; omega)
          rw [hma] at eV
          repeat' ((conv => whnf); first | refine And.intro (fun h => h) ?_ | refine dcond_t (by assumption) ?_ | refine dcond_f (by assumption) ?_ | (refine dcond_intro ?_ ?_ <;> intro h) | exact .refl | refine And.intro (by kernel_rfl) ?_ | refine And.intro ⟨fun h => h, fun h => h⟩ ?_ | refine ⟨a, And.intro ⟨hixa, hla⟩ ?_⟩ | refine ⟨accE (accA s a), And.intro hgacc ?_⟩ | refine .inl ⟨_, _, DleAll_refl _, ev, ?_⟩ | refine ⟨_, _, DleAll_refl _, fun _ => ev, ?_⟩ | refine ⟨_, _, DleAll_refl _, ev, ?_⟩ | refine ⟨.lst 1 ((choA s t).map intE) false, And.intro ⟨fun h => h, fun _ => hc1⟩ ?_⟩ | refine ⟨a, intE (v.mem[a]'hal), And.intro ⟨hixa, get_map hal⟩ ?_⟩ | refine ⟨.lst 3 ((repA s t).map rptE) false, And.intro hc0 ?_⟩ | refine .inl ⟨_, _, DleAll_refl _, er, ?_⟩ | refine ⟨_, _, DleAll_refl _, fun _ => er, ?_⟩ | refine ⟨_, _, DleAll_refl _, er, ?_⟩ | refine And.intro hst0 ?_ | refine Exists.intro false ?_ | (refine And.intro ?_ ?_; focus (simp; done)) | fail)
          all_goals (conv => whnf)
          · have hch : choA s t = [] := by
              have := ((Bool.and_eq_true ..).mp h).2
              simpa using this
            obtain ⟨hI2, hDD⟩ := hiv hch ((Bool.and_eq_true ..).mp h).1
            clear h
            rw [eV] at hI2 hDD
            have hN : InvN v ({ s with acc := s.acc.set a V1, rep := s.rep.set t (addR v (repA s t) ⟨v.mem[a], V2.rank, V2.cut⟩).1 } : PS) G := ⟨hI2, fun h => hDD _ (hD h), hF1, hd32⟩
            generalize addR v (repA s t) ⟨v.mem[a], V2.rank, V2.cut⟩ = R at *
            obtain ⟨P, hP⟩ : ∃ P : PS, P = ({ s with acc := s.acc.set a V1, rep := s.rep.set t R.1 } : PS) := ⟨_, rfl⟩
            rw [← hP] at hN
            obtain ⟨hI2, hD2, hF2, hd2⟩ := hN
            have hFl : ∀ j, (fastA P j).length ≤ 1 := fun j => fast_one hF2 j
            refine ⟨Nat × List Int, fun y => ⟨[(1, .lst 5 (l.map stE) false), (2, .lp 0 0), (5, .lst 1 (cuts.map cutE) false), (6, i64 v.mem.length), (7, .own 1), (8, .own 2), (10, .lp 3 0), (11, .lp 4 0), (12, .lst 1 (y.2.map intE) false), (13, i64 i), (29, i64 y.1)], [.cells 44 (viewE v), .row 28 3 (P.acc.map accE), .row 26 1 (P.fast.map fnE), .cells 63 (triE P.rep P.cho), .cells 65 (P.took.map i64)]⟩, fun y => y.1 ≤ v.mem.length ∧ (y.2 ≠ [] → Dec v P G y.2) ∧ y.2.length ≤ 32, fun y => v.mem.length - y.1, [], ⟨(0, P.dec), ⟨Nat.zero_le _, hD2, hd2⟩, ?_⟩, ?_⟩
            · subst hP
              conv => whnf
              refine ⟨⟨.refl, .refl, .refl, .refl, .refl, .refl, .refl, .refl, .refl, .refl, .refl, trivial⟩, ⟨.refl, ?_, ?_, ?_, ?_, trivial⟩, bnd9 rfl rfl rfl⟩
              · refine ole_row (show (s.acc.map accE).set a (accE V1) = _ from ?_)
                rw [List.map_set]
              · exact .refl
              · refine ole_cells (show dset (triE s.rep s.cho) (0 + k * 32 + b * 2 + 0) (.lst 3 (R.1.map rptE) false) = _ from ?_)
                rw [show 0 + k * 32 + b * 2 + 0 = 2 * t by omega]
                exact tri_setR (by rw [hI.lrep, hI.lcho]) (by rw [hI.lrep]; exact hkt.1)
              · exact .refl
            · clear hP
              intro ⟨j, dc⟩ ⟨hj, hjd, hjl⟩
              simp only at hj hjd hjl
              conv => whnf
              refine dcond_intro ?_ ?_ <;> intro h
              · have hjlt : j < v.mem.length := by simpa using h
                clear h
                have hlfj : j < (P.fast.map fnE).length := by rw [List.length_map, hI2.lfast]; exact hjlt
                have hgj := fast_get hI2 hjlt
                obtain ⟨fj, hfj⟩ : ∃ fj, fj = fastA P j := ⟨_, rfl⟩
                have hfl : fj.length ≤ 1 := by rw [hfj]; exact hFl j
                rw [← hfj] at hgj
                conv => whnf
                refine ⟨Nat, fun m => ⟨[(1, .lst 5 (l.map stE) false), (2, .lp 0 0), (5, .lst 1 (cuts.map cutE) false), (6, i64 v.mem.length), (7, .own 1), (8, .own 2), (10, .lp 3 0), (11, .lp 4 0), (12, .lst 1 (dc.map intE) false), (13, i64 i), (29, i64 j), (30, i64 (voteC P fj m)), (31, i64 m)], [.cells 44 (viewE v), .row 28 3 (P.acc.map accE), .row 26 1 (P.fast.map fnE), .cells 63 (triE P.rep P.cho), .cells 65 (P.took.map i64)]⟩, fun m => m ≤ v.mem.length, fun m => v.mem.length - m, [], ⟨0, Nat.zero_le _, ?_⟩, ?_⟩
                · conv => whnf
                  exact ⟨⟨.refl, .refl, .refl, .refl, .refl, .refl, .refl, .refl, .refl, .refl, .refl, dle_int (voteC_zero _ _).symm, .refl, trivial⟩, ⟨.refl, .refl, .refl, .refl, .refl, trivial⟩, bnd9 rfl rfl rfl⟩
                · intro m hm
                  conv => whnf
                  refine dcond_intro ?_ ?_ <;> intro h
                  · have hmlt : m < v.mem.length := by simpa using h
                    clear h
                    have hlfm : m < (P.fast.map fnE).length := by rw [List.length_map, hI2.lfast]; exact hmlt
                    have hgm := fast_get hI2 hmlt
                    have hvs := voteC_succ P fj m
                    have hvl := voteC_le P fj m
                    obtain ⟨fm, hfm⟩ : ∃ fm, fm = fastA P m := ⟨_, rfl⟩
                    rw [← hfm] at hgm hvs
                    have e23 := r23 fj fm (by simp only [maxLen]; omega)
                    clear hfj hfm
                    rcases fnE_cases fj with ⟨ej, h0⟩ | ⟨ej, h0⟩ <;> rcases fnE_cases fm with ⟨em, h1⟩ | ⟨em, h1⟩
                    · rw [ej] at hgj
                      rw [em] at hgm
                      subst h0
                      subst h1
                      repeat' ((conv => whnf); first | refine And.intro (fun h => h) ?_ | refine dcond_t (by assumption) ?_ | refine dcond_f (by assumption) ?_ | (refine dcond_intro ?_ ?_ <;> intro h) | exact .refl | refine And.intro (by kernel_rfl) ?_ | refine And.intro ⟨fun h => h, fun h => h⟩ ?_ | refine ⟨j, And.intro ⟨rfl, hlfj⟩ ?_⟩ | refine ⟨j, And.intro ⟨⟨fun h => h, fun h => h⟩, fun hg => ⟨rfl, hlfj⟩⟩ ?_⟩ | refine ⟨m, And.intro ⟨⟨fun h => h, fun h => h⟩, fun hg => ⟨rfl, hlfm⟩⟩ ?_⟩ | refine ⟨[DV.nl], And.intro hgj ?_⟩ | refine ⟨[DV.nl], And.intro ⟨fun h => h, fun _ => hgj⟩ ?_⟩ | refine ⟨[DV.nl], And.intro hgm ?_⟩ | refine ⟨[DV.nl], And.intro ⟨fun h => h, fun _ => hgm⟩ ?_⟩ | refine ⟨[.lst 1 (([] : List Int).map intE) false, .lst 1 (([] : List Int).map intE) false], _, ⟨.nl, .nl, trivial⟩, fun _ => e23, ?_⟩ | refine Exists.intro false ?_ | (refine And.intro ?_ ?_; focus (simp; done)) | fail)
                      all_goals (conv => whnf)
                      refine ⟨m + 1, hmlt, by simp only []; omega, ?_⟩
                      conv => whnf
                      exact ⟨⟨.refl, .refl, .refl, .refl, .refl, .refl, .refl, .refl, .refl, .refl, .refl, dle_int (by rw [hvs]; simp), dle_int (wrap_succ (by omega)), trivial⟩, ⟨.refl, .refl, .refl, .refl, .refl, trivial⟩, bnd9 rfl rfl rfl⟩
                    · rw [ej] at hgj
                      rw [em] at hgm
                      subst h0
                      repeat' ((conv => whnf); first | refine And.intro (fun h => h) ?_ | refine dcond_t (by assumption) ?_ | refine dcond_f (by assumption) ?_ | (refine dcond_intro ?_ ?_ <;> intro h) | exact .refl | refine And.intro (by kernel_rfl) ?_ | refine And.intro ⟨fun h => h, fun h => h⟩ ?_ | refine ⟨j, And.intro ⟨rfl, hlfj⟩ ?_⟩ | refine ⟨j, And.intro ⟨⟨fun h => h, fun h => h⟩, fun hg => ⟨rfl, hlfj⟩⟩ ?_⟩ | refine ⟨m, And.intro ⟨⟨fun h => h, fun h => h⟩, fun hg => ⟨rfl, hlfm⟩⟩ ?_⟩ | refine ⟨[DV.nl], And.intro hgj ?_⟩ | refine ⟨[DV.nl], And.intro ⟨fun h => h, fun _ => hgj⟩ ?_⟩ | refine ⟨[DV.lst 1 (fm.map intE) false], And.intro hgm ?_⟩ | refine ⟨[DV.lst 1 (fm.map intE) false], And.intro ⟨fun h => h, fun _ => hgm⟩ ?_⟩ | refine ⟨[.lst 1 (([] : List Int).map intE) false, .lst 1 ((fm : List Int).map intE) false], _, ⟨.nl, .refl, trivial⟩, fun _ => e23, ?_⟩ | refine Exists.intro false ?_ | (refine And.intro ?_ ?_; focus (simp; done)) | fail)
                      all_goals (conv => whnf)
                      refine ⟨m + 1, hmlt, by simp only []; omega, ?_⟩
                      conv => whnf
                      exact ⟨⟨.refl, .refl, .refl, .refl, .refl, .refl, .refl, .refl, .refl, .refl, .refl, dle_int (by rw [hvs]; simp), dle_int (wrap_succ (by omega)), trivial⟩, ⟨.refl, .refl, .refl, .refl, .refl, trivial⟩, bnd9 rfl rfl rfl⟩
                    · rw [ej] at hgj
                      rw [em] at hgm
                      subst h1
                      repeat' ((conv => whnf); first | refine And.intro (fun h => h) ?_ | refine dcond_t (by assumption) ?_ | refine dcond_f (by assumption) ?_ | (refine dcond_intro ?_ ?_ <;> intro h) | exact .refl | refine And.intro (by kernel_rfl) ?_ | refine And.intro ⟨fun h => h, fun h => h⟩ ?_ | refine ⟨j, And.intro ⟨rfl, hlfj⟩ ?_⟩ | refine ⟨j, And.intro ⟨⟨fun h => h, fun h => h⟩, fun hg => ⟨rfl, hlfj⟩⟩ ?_⟩ | refine ⟨m, And.intro ⟨⟨fun h => h, fun h => h⟩, fun hg => ⟨rfl, hlfm⟩⟩ ?_⟩ | refine ⟨[DV.lst 1 (fj.map intE) false], And.intro hgj ?_⟩ | refine ⟨[DV.lst 1 (fj.map intE) false], And.intro ⟨fun h => h, fun _ => hgj⟩ ?_⟩ | refine ⟨[DV.nl], And.intro hgm ?_⟩ | refine ⟨[DV.nl], And.intro ⟨fun h => h, fun _ => hgm⟩ ?_⟩ | refine ⟨[.lst 1 ((fj : List Int).map intE) false, .lst 1 (([] : List Int).map intE) false], _, ⟨.refl, .nl, trivial⟩, fun _ => e23, ?_⟩ | refine Exists.intro false ?_ | (refine And.intro ?_ ?_; focus (simp; done)) | fail)
                      all_goals (conv => whnf)
                      · have he := sameI_iff.1 ((Bool.and_eq_true ..).mp h).2
                        clear h
                        refine ⟨m + 1, hmlt, by simp only []; omega, ?_⟩
                        conv => whnf
                        exact ⟨⟨.refl, .refl, .refl, .refl, .refl, .refl, .refl, .refl, .refl, .refl, .refl, dle_int (by rw [hvs, if_pos ⟨h0, he.symm⟩, wrap_i64 (by omega) (by omega)]), dle_int (wrap_succ (by omega)), trivial⟩, ⟨.refl, .refl, .refl, .refl, .refl, trivial⟩, bnd9 rfl rfl rfl⟩
                      · have he : ¬ (fj ≠ [] ∧ [] = fj) := fun hh => by
                          have h5 : 0 < fj.length := List.length_pos_iff.2 h0
                          rw [hh.2, List.length_map, sameI_iff.2 rfl] at h
                          simp at h
                          exact h0 h
                        clear h
                        refine ⟨m + 1, hmlt, by simp only []; omega, ?_⟩
                        conv => whnf
                        exact ⟨⟨.refl, .refl, .refl, .refl, .refl, .refl, .refl, .refl, .refl, .refl, .refl, dle_int (by rw [hvs, if_neg he, Int.add_zero]), dle_int (wrap_succ (by omega)), trivial⟩, ⟨.refl, .refl, .refl, .refl, .refl, trivial⟩, bnd9 rfl rfl rfl⟩
                    · rw [ej] at hgj
                      rw [em] at hgm
                      repeat' ((conv => whnf); first | refine And.intro (fun h => h) ?_ | refine dcond_t (by assumption) ?_ | refine dcond_f (by assumption) ?_ | (refine dcond_intro ?_ ?_ <;> intro h) | exact .refl | refine And.intro (by kernel_rfl) ?_ | refine And.intro ⟨fun h => h, fun h => h⟩ ?_ | refine ⟨j, And.intro ⟨rfl, hlfj⟩ ?_⟩ | refine ⟨j, And.intro ⟨⟨fun h => h, fun h => h⟩, fun hg => ⟨rfl, hlfj⟩⟩ ?_⟩ | refine ⟨m, And.intro ⟨⟨fun h => h, fun h => h⟩, fun hg => ⟨rfl, hlfm⟩⟩ ?_⟩ | refine ⟨[DV.lst 1 (fj.map intE) false], And.intro hgj ?_⟩ | refine ⟨[DV.lst 1 (fj.map intE) false], And.intro ⟨fun h => h, fun _ => hgj⟩ ?_⟩ | refine ⟨[DV.lst 1 (fm.map intE) false], And.intro hgm ?_⟩ | refine ⟨[DV.lst 1 (fm.map intE) false], And.intro ⟨fun h => h, fun _ => hgm⟩ ?_⟩ | refine ⟨[.lst 1 ((fj : List Int).map intE) false, .lst 1 ((fm : List Int).map intE) false], _, ⟨.refl, .refl, trivial⟩, fun _ => e23, ?_⟩ | refine Exists.intro false ?_ | (refine And.intro ?_ ?_; focus (simp; done)) | fail)
                      all_goals (conv => whnf)
                      · have he := sameI_iff.1 ((Bool.and_eq_true ..).mp h).2
                        clear h
                        refine ⟨m + 1, hmlt, by simp only []; omega, ?_⟩
                        conv => whnf
                        exact ⟨⟨.refl, .refl, .refl, .refl, .refl, .refl, .refl, .refl, .refl, .refl, .refl, dle_int (by rw [hvs, if_pos ⟨h0, he.symm⟩, wrap_i64 (by omega) (by omega)]), dle_int (wrap_succ (by omega)), trivial⟩, ⟨.refl, .refl, .refl, .refl, .refl, trivial⟩, bnd9 rfl rfl rfl⟩
                      · have he : ¬ (fj ≠ [] ∧ fm = fj) := fun hh => by
                          have h5 : 0 < fj.length := List.length_pos_iff.2 h0
                          rw [hh.2, List.length_map, sameI_iff.2 rfl] at h
                          simp at h
                          exact h0 h
                        clear h
                        refine ⟨m + 1, hmlt, by simp only []; omega, ?_⟩
                        conv => whnf
                        exact ⟨⟨.refl, .refl, .refl, .refl, .refl, .refl, .refl, .refl, .refl, .refl, .refl, dle_int (by rw [hvs, if_neg he, Int.add_zero]), dle_int (wrap_succ (by omega)), trivial⟩, ⟨.refl, .refl, .refl, .refl, .refl, trivial⟩, bnd9 rfl rfl rfl⟩
                  · have hmn : m = v.mem.length := by
                      simp at h
                      omega
                    subst hmn
                    clear h
                    conv => whnf
                    refine And.intro (by decide) ?_
                    conv => whnf
                    refine dcond_intro ?_ ?_ <;> intro h
                    · have hfv := of_decide_eq_true h
                      clear h
                      rw [quo9 hn.1 hn.2] at hfv
                      obtain ⟨h0, hDj⟩ : fj ≠ [] ∧ Dec v P G fj := by
                        unfold voteC at hfv
                        have hne : fj ≠ [] := by
                          intro e
                          rw [if_pos e] at hfv
                          omega
                        rw [if_neg hne] at hfv
                        exact ⟨hne, hne, .inr (by omega)⟩
                      have ej : fnE fj = [.lst 1 (fj.map intE) false] := by
                        rcases fnE_cases fj with ⟨_, h⟩ | ⟨h, _⟩
                        · exact absurd h h0
                        · exact h
                      rw [ej] at hgj
                      have e23 := r23 dc fj (by simp only [maxLen]; omega)
                      repeat' ((conv => whnf); first | refine And.intro (fun h => h) ?_ | refine dcond_t (by assumption) ?_ | refine dcond_f (by assumption) ?_ | (refine dcond_intro ?_ ?_ <;> intro h) | exact .refl | refine And.intro (by kernel_rfl) ?_ | refine And.intro ⟨fun h => h, fun h => h⟩ ?_ | refine ⟨j, And.intro ⟨rfl, hlfj⟩ ?_⟩ | refine ⟨j, And.intro ⟨⟨fun h => h, fun h => h⟩, fun hg => ⟨rfl, hlfj⟩⟩ ?_⟩ | refine ⟨[DV.lst 1 (fj.map intE) false], And.intro hgj ?_⟩ | refine ⟨[DV.lst 1 (fj.map intE) false], And.intro ⟨fun h => h, fun _ => hgj⟩ ?_⟩ | refine .inl ⟨_, _, DleAll_refl _, e23, ?_⟩ | refine ⟨_, _, DleAll_refl _, fun _ => e23, ?_⟩ | refine ⟨_, _, DleAll_refl _, e23, ?_⟩ | refine Exists.intro false ?_ | (refine And.intro ?_ ?_; focus (simp; done)) | fail)
                      all_goals (conv => whnf)
                      · exfalso
                        have hne : dc ≠ [] := fun e => by
                          rw [e] at h
                          exact absurd h (by simp)
                        rw [dec_same hvw hI2 (hjd hne) hDj, sameI_iff.2 rfl] at h
                        simp at h
                      · clear h
                        refine ⟨(j + 1, fj), ⟨hjlt, fun _ => hDj, by simp only []; omega⟩, by simp only []; omega, ?_⟩
                        conv => whnf
                        exact ⟨⟨.refl, .refl, .refl, .refl, .refl, .refl, .refl, .refl, .refl, .refl, dle_int (wrap_succ (by omega)), trivial⟩, ⟨.refl, .refl, .refl, .refl, .refl, trivial⟩, bnd9 rfl rfl rfl⟩
                    · refine ⟨(j + 1, dc), ⟨hjlt, hjd, hjl⟩, by simp only []; omega, ?_⟩
                      conv => whnf
                      exact ⟨⟨.refl, .refl, .refl, .refl, .refl, .refl, .refl, .refl, .refl, .refl, dle_int (wrap_succ (by omega)), trivial⟩, ⟨.refl, .refl, .refl, .refl, .refl, trivial⟩, bnd9 rfl rfl rfl⟩
              · clear h
                conv => whnf
                refine ⟨(i + 1, { P with dec := dc }), ⟨hlt, G, inv_dec hI2 dc, hjd, hF2, hjl⟩, by simp only []; omega, ?_⟩
                conv => whnf
                exact ⟨⟨.refl, .refl, .refl, .refl, .refl, .refl, .refl, .refl, .refl, dle_int (wrap_succ (by omega)), trivial⟩, ⟨.refl, .refl, .refl, .refl, .refl, trivial⟩, bnd9 rfl rfl rfl⟩
          · clear h
            have hN : InvN v s G := ⟨hI, hD, hF1, hd32⟩
            obtain ⟨P, hP⟩ : ∃ P : PS, P = s := ⟨_, rfl⟩
            rw [← hP] at hN
            obtain ⟨hI2, hD2, hF2, hd2⟩ := hN
            have hFl : ∀ j, (fastA P j).length ≤ 1 := fun j => fast_one hF2 j
            refine ⟨Nat × List Int, fun y => ⟨[(1, .lst 5 (l.map stE) false), (2, .lp 0 0), (5, .lst 1 (cuts.map cutE) false), (6, i64 v.mem.length), (7, .own 1), (8, .own 2), (10, .lp 3 0), (11, .lp 4 0), (12, .lst 1 (y.2.map intE) false), (13, i64 i), (29, i64 y.1)], [.cells 44 (viewE v), .row 28 3 (P.acc.map accE), .row 26 1 (P.fast.map fnE), .cells 63 (triE P.rep P.cho), .cells 65 (P.took.map i64)]⟩, fun y => y.1 ≤ v.mem.length ∧ (y.2 ≠ [] → Dec v P G y.2) ∧ y.2.length ≤ 32, fun y => v.mem.length - y.1, [], ⟨(0, P.dec), ⟨Nat.zero_le _, hD2, hd2⟩, ?_⟩, ?_⟩
            · subst hP
              conv => whnf
              refine ⟨⟨.refl, .refl, .refl, .refl, .refl, .refl, .refl, .refl, .refl, .refl, .refl, trivial⟩, ⟨.refl, ?_, ?_, ?_, ?_, trivial⟩, bnd9 rfl rfl rfl⟩
              · exact .refl
              · exact .refl
              · exact .refl
              · exact .refl
            · clear hP
              intro ⟨j, dc⟩ ⟨hj, hjd, hjl⟩
              simp only at hj hjd hjl
              conv => whnf
              refine dcond_intro ?_ ?_ <;> intro h
              · have hjlt : j < v.mem.length := by simpa using h
                clear h
                have hlfj : j < (P.fast.map fnE).length := by rw [List.length_map, hI2.lfast]; exact hjlt
                have hgj := fast_get hI2 hjlt
                obtain ⟨fj, hfj⟩ : ∃ fj, fj = fastA P j := ⟨_, rfl⟩
                have hfl : fj.length ≤ 1 := by rw [hfj]; exact hFl j
                rw [← hfj] at hgj
                conv => whnf
                refine ⟨Nat, fun m => ⟨[(1, .lst 5 (l.map stE) false), (2, .lp 0 0), (5, .lst 1 (cuts.map cutE) false), (6, i64 v.mem.length), (7, .own 1), (8, .own 2), (10, .lp 3 0), (11, .lp 4 0), (12, .lst 1 (dc.map intE) false), (13, i64 i), (29, i64 j), (30, i64 (voteC P fj m)), (31, i64 m)], [.cells 44 (viewE v), .row 28 3 (P.acc.map accE), .row 26 1 (P.fast.map fnE), .cells 63 (triE P.rep P.cho), .cells 65 (P.took.map i64)]⟩, fun m => m ≤ v.mem.length, fun m => v.mem.length - m, [], ⟨0, Nat.zero_le _, ?_⟩, ?_⟩
                · conv => whnf
                  exact ⟨⟨.refl, .refl, .refl, .refl, .refl, .refl, .refl, .refl, .refl, .refl, .refl, dle_int (voteC_zero _ _).symm, .refl, trivial⟩, ⟨.refl, .refl, .refl, .refl, .refl, trivial⟩, bnd9 rfl rfl rfl⟩
                · intro m hm
                  conv => whnf
                  refine dcond_intro ?_ ?_ <;> intro h
                  · have hmlt : m < v.mem.length := by simpa using h
                    clear h
                    have hlfm : m < (P.fast.map fnE).length := by rw [List.length_map, hI2.lfast]; exact hmlt
                    have hgm := fast_get hI2 hmlt
                    have hvs := voteC_succ P fj m
                    have hvl := voteC_le P fj m
                    obtain ⟨fm, hfm⟩ : ∃ fm, fm = fastA P m := ⟨_, rfl⟩
                    rw [← hfm] at hgm hvs
                    have e23 := r23 fj fm (by simp only [maxLen]; omega)
                    clear hfj hfm
                    rcases fnE_cases fj with ⟨ej, h0⟩ | ⟨ej, h0⟩ <;> rcases fnE_cases fm with ⟨em, h1⟩ | ⟨em, h1⟩
                    · rw [ej] at hgj
                      rw [em] at hgm
                      subst h0
                      subst h1
                      repeat' ((conv => whnf); first | refine And.intro (fun h => h) ?_ | refine dcond_t (by assumption) ?_ | refine dcond_f (by assumption) ?_ | (refine dcond_intro ?_ ?_ <;> intro h) | exact .refl | refine And.intro (by kernel_rfl) ?_ | refine And.intro ⟨fun h => h, fun h => h⟩ ?_ | refine ⟨j, And.intro ⟨rfl, hlfj⟩ ?_⟩ | refine ⟨j, And.intro ⟨⟨fun h => h, fun h => h⟩, fun hg => ⟨rfl, hlfj⟩⟩ ?_⟩ | refine ⟨m, And.intro ⟨⟨fun h => h, fun h => h⟩, fun hg => ⟨rfl, hlfm⟩⟩ ?_⟩ | refine ⟨[DV.nl], And.intro hgj ?_⟩ | refine ⟨[DV.nl], And.intro ⟨fun h => h, fun _ => hgj⟩ ?_⟩ | refine ⟨[DV.nl], And.intro hgm ?_⟩ | refine ⟨[DV.nl], And.intro ⟨fun h => h, fun _ => hgm⟩ ?_⟩ | refine ⟨[.lst 1 (([] : List Int).map intE) false, .lst 1 (([] : List Int).map intE) false], _, ⟨.nl, .nl, trivial⟩, fun _ => e23, ?_⟩ | refine Exists.intro false ?_ | (refine And.intro ?_ ?_; focus (simp; done)) | fail)
                      all_goals (conv => whnf)
                      refine ⟨m + 1, hmlt, by simp only []; omega, ?_⟩
                      conv => whnf
                      exact ⟨⟨.refl, .refl, .refl, .refl, .refl, .refl, .refl, .refl, .refl, .refl, .refl, dle_int (by rw [hvs]; simp), dle_int (wrap_succ (by omega)), trivial⟩, ⟨.refl, .refl, .refl, .refl, .refl, trivial⟩, bnd9 rfl rfl rfl⟩
                    · rw [ej] at hgj
                      rw [em] at hgm
                      subst h0
                      repeat' ((conv => whnf); first | refine And.intro (fun h => h) ?_ | refine dcond_t (by assumption) ?_ | refine dcond_f (by assumption) ?_ | (refine dcond_intro ?_ ?_ <;> intro h) | exact .refl | refine And.intro (by kernel_rfl) ?_ | refine And.intro ⟨fun h => h, fun h => h⟩ ?_ | refine ⟨j, And.intro ⟨rfl, hlfj⟩ ?_⟩ | refine ⟨j, And.intro ⟨⟨fun h => h, fun h => h⟩, fun hg => ⟨rfl, hlfj⟩⟩ ?_⟩ | refine ⟨m, And.intro ⟨⟨fun h => h, fun h => h⟩, fun hg => ⟨rfl, hlfm⟩⟩ ?_⟩ | refine ⟨[DV.nl], And.intro hgj ?_⟩ | refine ⟨[DV.nl], And.intro ⟨fun h => h, fun _ => hgj⟩ ?_⟩ | refine ⟨[DV.lst 1 (fm.map intE) false], And.intro hgm ?_⟩ | refine ⟨[DV.lst 1 (fm.map intE) false], And.intro ⟨fun h => h, fun _ => hgm⟩ ?_⟩ | refine ⟨[.lst 1 (([] : List Int).map intE) false, .lst 1 ((fm : List Int).map intE) false], _, ⟨.nl, .refl, trivial⟩, fun _ => e23, ?_⟩ | refine Exists.intro false ?_ | (refine And.intro ?_ ?_; focus (simp; done)) | fail)
                      all_goals (conv => whnf)
                      refine ⟨m + 1, hmlt, by simp only []; omega, ?_⟩
                      conv => whnf
                      exact ⟨⟨.refl, .refl, .refl, .refl, .refl, .refl, .refl, .refl, .refl, .refl, .refl, dle_int (by rw [hvs]; simp), dle_int (wrap_succ (by omega)), trivial⟩, ⟨.refl, .refl, .refl, .refl, .refl, trivial⟩, bnd9 rfl rfl rfl⟩
                    · rw [ej] at hgj
                      rw [em] at hgm
                      subst h1
                      repeat' ((conv => whnf); first | refine And.intro (fun h => h) ?_ | refine dcond_t (by assumption) ?_ | refine dcond_f (by assumption) ?_ | (refine dcond_intro ?_ ?_ <;> intro h) | exact .refl | refine And.intro (by kernel_rfl) ?_ | refine And.intro ⟨fun h => h, fun h => h⟩ ?_ | refine ⟨j, And.intro ⟨rfl, hlfj⟩ ?_⟩ | refine ⟨j, And.intro ⟨⟨fun h => h, fun h => h⟩, fun hg => ⟨rfl, hlfj⟩⟩ ?_⟩ | refine ⟨m, And.intro ⟨⟨fun h => h, fun h => h⟩, fun hg => ⟨rfl, hlfm⟩⟩ ?_⟩ | refine ⟨[DV.lst 1 (fj.map intE) false], And.intro hgj ?_⟩ | refine ⟨[DV.lst 1 (fj.map intE) false], And.intro ⟨fun h => h, fun _ => hgj⟩ ?_⟩ | refine ⟨[DV.nl], And.intro hgm ?_⟩ | refine ⟨[DV.nl], And.intro ⟨fun h => h, fun _ => hgm⟩ ?_⟩ | refine ⟨[.lst 1 ((fj : List Int).map intE) false, .lst 1 (([] : List Int).map intE) false], _, ⟨.refl, .nl, trivial⟩, fun _ => e23, ?_⟩ | refine Exists.intro false ?_ | (refine And.intro ?_ ?_; focus (simp; done)) | fail)
                      all_goals (conv => whnf)
                      · have he := sameI_iff.1 ((Bool.and_eq_true ..).mp h).2
                        clear h
                        refine ⟨m + 1, hmlt, by simp only []; omega, ?_⟩
                        conv => whnf
                        exact ⟨⟨.refl, .refl, .refl, .refl, .refl, .refl, .refl, .refl, .refl, .refl, .refl, dle_int (by rw [hvs, if_pos ⟨h0, he.symm⟩, wrap_i64 (by omega) (by omega)]), dle_int (wrap_succ (by omega)), trivial⟩, ⟨.refl, .refl, .refl, .refl, .refl, trivial⟩, bnd9 rfl rfl rfl⟩
                      · have he : ¬ (fj ≠ [] ∧ [] = fj) := fun hh => by
                          have h5 : 0 < fj.length := List.length_pos_iff.2 h0
                          rw [hh.2, List.length_map, sameI_iff.2 rfl] at h
                          simp at h
                          exact h0 h
                        clear h
                        refine ⟨m + 1, hmlt, by simp only []; omega, ?_⟩
                        conv => whnf
                        exact ⟨⟨.refl, .refl, .refl, .refl, .refl, .refl, .refl, .refl, .refl, .refl, .refl, dle_int (by rw [hvs, if_neg he, Int.add_zero]), dle_int (wrap_succ (by omega)), trivial⟩, ⟨.refl, .refl, .refl, .refl, .refl, trivial⟩, bnd9 rfl rfl rfl⟩
                    · rw [ej] at hgj
                      rw [em] at hgm
                      repeat' ((conv => whnf); first | refine And.intro (fun h => h) ?_ | refine dcond_t (by assumption) ?_ | refine dcond_f (by assumption) ?_ | (refine dcond_intro ?_ ?_ <;> intro h) | exact .refl | refine And.intro (by kernel_rfl) ?_ | refine And.intro ⟨fun h => h, fun h => h⟩ ?_ | refine ⟨j, And.intro ⟨rfl, hlfj⟩ ?_⟩ | refine ⟨j, And.intro ⟨⟨fun h => h, fun h => h⟩, fun hg => ⟨rfl, hlfj⟩⟩ ?_⟩ | refine ⟨m, And.intro ⟨⟨fun h => h, fun h => h⟩, fun hg => ⟨rfl, hlfm⟩⟩ ?_⟩ | refine ⟨[DV.lst 1 (fj.map intE) false], And.intro hgj ?_⟩ | refine ⟨[DV.lst 1 (fj.map intE) false], And.intro ⟨fun h => h, fun _ => hgj⟩ ?_⟩ | refine ⟨[DV.lst 1 (fm.map intE) false], And.intro hgm ?_⟩ | refine ⟨[DV.lst 1 (fm.map intE) false], And.intro ⟨fun h => h, fun _ => hgm⟩ ?_⟩ | refine ⟨[.lst 1 ((fj : List Int).map intE) false, .lst 1 ((fm : List Int).map intE) false], _, ⟨.refl, .refl, trivial⟩, fun _ => e23, ?_⟩ | refine Exists.intro false ?_ | (refine And.intro ?_ ?_; focus (simp; done)) | fail)
                      all_goals (conv => whnf)
                      · have he := sameI_iff.1 ((Bool.and_eq_true ..).mp h).2
                        clear h
                        refine ⟨m + 1, hmlt, by simp only []; omega, ?_⟩
                        conv => whnf
                        exact ⟨⟨.refl, .refl, .refl, .refl, .refl, .refl, .refl, .refl, .refl, .refl, .refl, dle_int (by rw [hvs, if_pos ⟨h0, he.symm⟩, wrap_i64 (by omega) (by omega)]), dle_int (wrap_succ (by omega)), trivial⟩, ⟨.refl, .refl, .refl, .refl, .refl, trivial⟩, bnd9 rfl rfl rfl⟩
                      · have he : ¬ (fj ≠ [] ∧ fm = fj) := fun hh => by
                          have h5 : 0 < fj.length := List.length_pos_iff.2 h0
                          rw [hh.2, List.length_map, sameI_iff.2 rfl] at h
                          simp at h
                          exact h0 h
                        clear h
                        refine ⟨m + 1, hmlt, by simp only []; omega, ?_⟩
                        conv => whnf
                        exact ⟨⟨.refl, .refl, .refl, .refl, .refl, .refl, .refl, .refl, .refl, .refl, .refl, dle_int (by rw [hvs, if_neg he, Int.add_zero]), dle_int (wrap_succ (by omega)), trivial⟩, ⟨.refl, .refl, .refl, .refl, .refl, trivial⟩, bnd9 rfl rfl rfl⟩
                  · have hmn : m = v.mem.length := by
                      simp at h
                      omega
                    subst hmn
                    clear h
                    conv => whnf
                    refine And.intro (by decide) ?_
                    conv => whnf
                    refine dcond_intro ?_ ?_ <;> intro h
                    · have hfv := of_decide_eq_true h
                      clear h
                      rw [quo9 hn.1 hn.2] at hfv
                      obtain ⟨h0, hDj⟩ : fj ≠ [] ∧ Dec v P G fj := by
                        unfold voteC at hfv
                        have hne : fj ≠ [] := by
                          intro e
                          rw [if_pos e] at hfv
                          omega
                        rw [if_neg hne] at hfv
                        exact ⟨hne, hne, .inr (by omega)⟩
                      have ej : fnE fj = [.lst 1 (fj.map intE) false] := by
                        rcases fnE_cases fj with ⟨_, h⟩ | ⟨h, _⟩
                        · exact absurd h h0
                        · exact h
                      rw [ej] at hgj
                      have e23 := r23 dc fj (by simp only [maxLen]; omega)
                      repeat' ((conv => whnf); first | refine And.intro (fun h => h) ?_ | refine dcond_t (by assumption) ?_ | refine dcond_f (by assumption) ?_ | (refine dcond_intro ?_ ?_ <;> intro h) | exact .refl | refine And.intro (by kernel_rfl) ?_ | refine And.intro ⟨fun h => h, fun h => h⟩ ?_ | refine ⟨j, And.intro ⟨rfl, hlfj⟩ ?_⟩ | refine ⟨j, And.intro ⟨⟨fun h => h, fun h => h⟩, fun hg => ⟨rfl, hlfj⟩⟩ ?_⟩ | refine ⟨[DV.lst 1 (fj.map intE) false], And.intro hgj ?_⟩ | refine ⟨[DV.lst 1 (fj.map intE) false], And.intro ⟨fun h => h, fun _ => hgj⟩ ?_⟩ | refine .inl ⟨_, _, DleAll_refl _, e23, ?_⟩ | refine ⟨_, _, DleAll_refl _, fun _ => e23, ?_⟩ | refine ⟨_, _, DleAll_refl _, e23, ?_⟩ | refine Exists.intro false ?_ | (refine And.intro ?_ ?_; focus (simp; done)) | fail)
                      all_goals (conv => whnf)
                      · exfalso
                        have hne : dc ≠ [] := fun e => by
                          rw [e] at h
                          exact absurd h (by simp)
                        rw [dec_same hvw hI2 (hjd hne) hDj, sameI_iff.2 rfl] at h
                        simp at h
                      · clear h
                        refine ⟨(j + 1, fj), ⟨hjlt, fun _ => hDj, by simp only []; omega⟩, by simp only []; omega, ?_⟩
                        conv => whnf
                        exact ⟨⟨.refl, .refl, .refl, .refl, .refl, .refl, .refl, .refl, .refl, .refl, dle_int (wrap_succ (by omega)), trivial⟩, ⟨.refl, .refl, .refl, .refl, .refl, trivial⟩, bnd9 rfl rfl rfl⟩
                    · refine ⟨(j + 1, dc), ⟨hjlt, hjd, hjl⟩, by simp only []; omega, ?_⟩
                      conv => whnf
                      exact ⟨⟨.refl, .refl, .refl, .refl, .refl, .refl, .refl, .refl, .refl, .refl, dle_int (wrap_succ (by omega)), trivial⟩, ⟨.refl, .refl, .refl, .refl, .refl, trivial⟩, bnd9 rfl rfl rfl⟩
              · clear h
                conv => whnf
                refine ⟨(i + 1, { P with dec := dc }), ⟨hlt, G, inv_dec hI2 dc, hjd, hF2, hjl⟩, by simp only []; omega, ?_⟩
                conv => whnf
                exact ⟨⟨.refl, .refl, .refl, .refl, .refl, .refl, .refl, .refl, .refl, dle_int (wrap_succ (by omega)), trivial⟩, ⟨.refl, .refl, .refl, .refl, .refl, trivial⟩, bnd9 rfl rfl rfl⟩
        · clear h
          have hr16 := rep_16 hvw hI hkt
          have hrc := rep_cut hvw hI hkt
          have ev := r28 v (by omega) (repA s t) (by omega) (fun r hr => Nat.le_trans (hrc r hr) (by decide)) c (by omega)
          have hiv := fun hch => inv_choose hvw hI hkt hch hcne hcl.2
          have eV : choS v s t c = { s with cho := s.cho.set t (chooseR v (repA s t) c).1 } := rfl
          generalize chooseR v (repA s t) c = V at *
          obtain ⟨V1, V2⟩ := V
          simp only at ev hiv eV
          repeat' ((conv => whnf); first | refine And.intro (fun h => h) ?_ | refine dcond_t (by assumption) ?_ | refine dcond_f (by assumption) ?_ | (refine dcond_intro ?_ ?_ <;> intro h) | exact .refl | refine And.intro (by kernel_rfl) ?_ | refine And.intro ⟨fun h => h, fun h => h⟩ ?_ | refine ⟨i, stE x, And.intro ⟨rfl, hgx⟩ ?_⟩ | refine And.intro hnec ?_ | refine ⟨K, cutE c, And.intro ⟨hixw, hgc⟩ ?_⟩ | refine ⟨.lst 1 ((choA s t).map intE) false, And.intro ⟨fun h => h, fun _ => hc1⟩ ?_⟩ | refine ⟨.lst 3 ((repA s t).map rptE) false, And.intro hc0 ?_⟩ | refine .inl ⟨_, _, DleAll_refl _, ev, ?_⟩ | refine ⟨_, _, DleAll_refl _, fun _ => ev, ?_⟩ | refine ⟨_, _, DleAll_refl _, ev, ?_⟩ | refine And.intro hst1 ?_ | refine Exists.intro false ?_ | (refine And.intro ?_ ?_; focus (simp; done)) | fail)
          all_goals (conv => whnf)
          · have hch : choA s t = [] := by
              have := ((Bool.and_eq_true ..).mp h).2
              simpa using this
            obtain ⟨hI2, hDD⟩ := hiv hch ((Bool.and_eq_true ..).mp h).1
            clear h
            rw [eV] at hI2 hDD
            have hN : InvN v ({ s with cho := s.cho.set t V1 } : PS) G := ⟨hI2, fun h => hDD _ (hD h), hF1, hd32⟩
            obtain ⟨P, hP⟩ : ∃ P : PS, P = ({ s with cho := s.cho.set t V1 } : PS) := ⟨_, rfl⟩
            rw [← hP] at hN
            obtain ⟨hI2, hD2, hF2, hd2⟩ := hN
            have hFl : ∀ j, (fastA P j).length ≤ 1 := fun j => fast_one hF2 j
            refine ⟨Nat × List Int, fun y => ⟨[(1, .lst 5 (l.map stE) false), (2, .lp 0 0), (5, .lst 1 (cuts.map cutE) false), (6, i64 v.mem.length), (7, .own 1), (8, .own 2), (10, .lp 3 0), (11, .lp 4 0), (12, .lst 1 (y.2.map intE) false), (13, i64 i), (29, i64 y.1)], [.cells 44 (viewE v), .row 28 3 (P.acc.map accE), .row 26 1 (P.fast.map fnE), .cells 63 (triE P.rep P.cho), .cells 65 (P.took.map i64)]⟩, fun y => y.1 ≤ v.mem.length ∧ (y.2 ≠ [] → Dec v P G y.2) ∧ y.2.length ≤ 32, fun y => v.mem.length - y.1, [], ⟨(0, P.dec), ⟨Nat.zero_le _, hD2, hd2⟩, ?_⟩, ?_⟩
            · subst hP
              conv => whnf
              refine ⟨⟨.refl, .refl, .refl, .refl, .refl, .refl, .refl, .refl, .refl, .refl, .refl, trivial⟩, ⟨.refl, ?_, ?_, ?_, ?_, trivial⟩, bnd9 rfl rfl rfl⟩
              · exact .refl
              · exact .refl
              · refine ole_cells (show dset (triE s.rep s.cho) (0 + k * 32 + b * 2 + 1) (.lst 1 (V1.map intE) false) = _ from ?_)
                rw [show 0 + k * 32 + b * 2 + 1 = 2 * t + 1 by omega]
                exact tri_setC (by rw [hI.lrep, hI.lcho]) (by rw [hI.lrep]; exact hkt.1)
              · exact .refl
            · clear hP
              intro ⟨j, dc⟩ ⟨hj, hjd, hjl⟩
              simp only at hj hjd hjl
              conv => whnf
              refine dcond_intro ?_ ?_ <;> intro h
              · have hjlt : j < v.mem.length := by simpa using h
                clear h
                have hlfj : j < (P.fast.map fnE).length := by rw [List.length_map, hI2.lfast]; exact hjlt
                have hgj := fast_get hI2 hjlt
                obtain ⟨fj, hfj⟩ : ∃ fj, fj = fastA P j := ⟨_, rfl⟩
                have hfl : fj.length ≤ 1 := by rw [hfj]; exact hFl j
                rw [← hfj] at hgj
                conv => whnf
                refine ⟨Nat, fun m => ⟨[(1, .lst 5 (l.map stE) false), (2, .lp 0 0), (5, .lst 1 (cuts.map cutE) false), (6, i64 v.mem.length), (7, .own 1), (8, .own 2), (10, .lp 3 0), (11, .lp 4 0), (12, .lst 1 (dc.map intE) false), (13, i64 i), (29, i64 j), (30, i64 (voteC P fj m)), (31, i64 m)], [.cells 44 (viewE v), .row 28 3 (P.acc.map accE), .row 26 1 (P.fast.map fnE), .cells 63 (triE P.rep P.cho), .cells 65 (P.took.map i64)]⟩, fun m => m ≤ v.mem.length, fun m => v.mem.length - m, [], ⟨0, Nat.zero_le _, ?_⟩, ?_⟩
                · conv => whnf
                  exact ⟨⟨.refl, .refl, .refl, .refl, .refl, .refl, .refl, .refl, .refl, .refl, .refl, dle_int (voteC_zero _ _).symm, .refl, trivial⟩, ⟨.refl, .refl, .refl, .refl, .refl, trivial⟩, bnd9 rfl rfl rfl⟩
                · intro m hm
                  conv => whnf
                  refine dcond_intro ?_ ?_ <;> intro h
                  · have hmlt : m < v.mem.length := by simpa using h
                    clear h
                    have hlfm : m < (P.fast.map fnE).length := by rw [List.length_map, hI2.lfast]; exact hmlt
                    have hgm := fast_get hI2 hmlt
                    have hvs := voteC_succ P fj m
                    have hvl := voteC_le P fj m
                    obtain ⟨fm, hfm⟩ : ∃ fm, fm = fastA P m := ⟨_, rfl⟩
                    rw [← hfm] at hgm hvs
                    have e23 := r23 fj fm (by simp only [maxLen]; omega)
                    clear hfj hfm
                    rcases fnE_cases fj with ⟨ej, h0⟩ | ⟨ej, h0⟩ <;> rcases fnE_cases fm with ⟨em, h1⟩ | ⟨em, h1⟩
                    · rw [ej] at hgj
                      rw [em] at hgm
                      subst h0
                      subst h1
                      repeat' ((conv => whnf); first | refine And.intro (fun h => h) ?_ | refine dcond_t (by assumption) ?_ | refine dcond_f (by assumption) ?_ | (refine dcond_intro ?_ ?_ <;> intro h) | exact .refl | refine And.intro (by kernel_rfl) ?_ | refine And.intro ⟨fun h => h, fun h => h⟩ ?_ | refine ⟨j, And.intro ⟨rfl, hlfj⟩ ?_⟩ | refine ⟨j, And.intro ⟨⟨fun h => h, fun h => h⟩, fun hg => ⟨rfl, hlfj⟩⟩ ?_⟩ | refine ⟨m, And.intro ⟨⟨fun h => h, fun h => h⟩, fun hg => ⟨rfl, hlfm⟩⟩ ?_⟩ | refine ⟨[DV.nl], And.intro hgj ?_⟩ | refine ⟨[DV.nl], And.intro ⟨fun h => h, fun _ => hgj⟩ ?_⟩ | refine ⟨[DV.nl], And.intro hgm ?_⟩ | refine ⟨[DV.nl], And.intro ⟨fun h => h, fun _ => hgm⟩ ?_⟩ | refine ⟨[.lst 1 (([] : List Int).map intE) false, .lst 1 (([] : List Int).map intE) false], _, ⟨.nl, .nl, trivial⟩, fun _ => e23, ?_⟩ | refine Exists.intro false ?_ | (refine And.intro ?_ ?_; focus (simp; done)) | fail)
                      all_goals (conv => whnf)
                      refine ⟨m + 1, hmlt, by simp only []; omega, ?_⟩
                      conv => whnf
                      exact ⟨⟨.refl, .refl, .refl, .refl, .refl, .refl, .refl, .refl, .refl, .refl, .refl, dle_int (by rw [hvs]; simp), dle_int (wrap_succ (by omega)), trivial⟩, ⟨.refl, .refl, .refl, .refl, .refl, trivial⟩, bnd9 rfl rfl rfl⟩
                    · rw [ej] at hgj
                      rw [em] at hgm
                      subst h0
                      repeat' ((conv => whnf); first | refine And.intro (fun h => h) ?_ | refine dcond_t (by assumption) ?_ | refine dcond_f (by assumption) ?_ | (refine dcond_intro ?_ ?_ <;> intro h) | exact .refl | refine And.intro (by kernel_rfl) ?_ | refine And.intro ⟨fun h => h, fun h => h⟩ ?_ | refine ⟨j, And.intro ⟨rfl, hlfj⟩ ?_⟩ | refine ⟨j, And.intro ⟨⟨fun h => h, fun h => h⟩, fun hg => ⟨rfl, hlfj⟩⟩ ?_⟩ | refine ⟨m, And.intro ⟨⟨fun h => h, fun h => h⟩, fun hg => ⟨rfl, hlfm⟩⟩ ?_⟩ | refine ⟨[DV.nl], And.intro hgj ?_⟩ | refine ⟨[DV.nl], And.intro ⟨fun h => h, fun _ => hgj⟩ ?_⟩ | refine ⟨[DV.lst 1 (fm.map intE) false], And.intro hgm ?_⟩ | refine ⟨[DV.lst 1 (fm.map intE) false], And.intro ⟨fun h => h, fun _ => hgm⟩ ?_⟩ | refine ⟨[.lst 1 (([] : List Int).map intE) false, .lst 1 ((fm : List Int).map intE) false], _, ⟨.nl, .refl, trivial⟩, fun _ => e23, ?_⟩ | refine Exists.intro false ?_ | (refine And.intro ?_ ?_; focus (simp; done)) | fail)
                      all_goals (conv => whnf)
                      refine ⟨m + 1, hmlt, by simp only []; omega, ?_⟩
                      conv => whnf
                      exact ⟨⟨.refl, .refl, .refl, .refl, .refl, .refl, .refl, .refl, .refl, .refl, .refl, dle_int (by rw [hvs]; simp), dle_int (wrap_succ (by omega)), trivial⟩, ⟨.refl, .refl, .refl, .refl, .refl, trivial⟩, bnd9 rfl rfl rfl⟩
                    · rw [ej] at hgj
                      rw [em] at hgm
                      subst h1
                      repeat' ((conv => whnf); first | refine And.intro (fun h => h) ?_ | refine dcond_t (by assumption) ?_ | refine dcond_f (by assumption) ?_ | (refine dcond_intro ?_ ?_ <;> intro h) | exact .refl | refine And.intro (by kernel_rfl) ?_ | refine And.intro ⟨fun h => h, fun h => h⟩ ?_ | refine ⟨j, And.intro ⟨rfl, hlfj⟩ ?_⟩ | refine ⟨j, And.intro ⟨⟨fun h => h, fun h => h⟩, fun hg => ⟨rfl, hlfj⟩⟩ ?_⟩ | refine ⟨m, And.intro ⟨⟨fun h => h, fun h => h⟩, fun hg => ⟨rfl, hlfm⟩⟩ ?_⟩ | refine ⟨[DV.lst 1 (fj.map intE) false], And.intro hgj ?_⟩ | refine ⟨[DV.lst 1 (fj.map intE) false], And.intro ⟨fun h => h, fun _ => hgj⟩ ?_⟩ | refine ⟨[DV.nl], And.intro hgm ?_⟩ | refine ⟨[DV.nl], And.intro ⟨fun h => h, fun _ => hgm⟩ ?_⟩ | refine ⟨[.lst 1 ((fj : List Int).map intE) false, .lst 1 (([] : List Int).map intE) false], _, ⟨.refl, .nl, trivial⟩, fun _ => e23, ?_⟩ | refine Exists.intro false ?_ | (refine And.intro ?_ ?_; focus (simp; done)) | fail)
                      all_goals (conv => whnf)
                      · have he := sameI_iff.1 ((Bool.and_eq_true ..).mp h).2
                        clear h
                        refine ⟨m + 1, hmlt, by simp only []; omega, ?_⟩
                        conv => whnf
                        exact ⟨⟨.refl, .refl, .refl, .refl, .refl, .refl, .refl, .refl, .refl, .refl, .refl, dle_int (by rw [hvs, if_pos ⟨h0, he.symm⟩, wrap_i64 (by omega) (by omega)]), dle_int (wrap_succ (by omega)), trivial⟩, ⟨.refl, .refl, .refl, .refl, .refl, trivial⟩, bnd9 rfl rfl rfl⟩
                      · have he : ¬ (fj ≠ [] ∧ [] = fj) := fun hh => by
                          have h5 : 0 < fj.length := List.length_pos_iff.2 h0
                          rw [hh.2, List.length_map, sameI_iff.2 rfl] at h
                          simp at h
                          exact h0 h
                        clear h
                        refine ⟨m + 1, hmlt, by simp only []; omega, ?_⟩
                        conv => whnf
                        exact ⟨⟨.refl, .refl, .refl, .refl, .refl, .refl, .refl, .refl, .refl, .refl, .refl, dle_int (by rw [hvs, if_neg he, Int.add_zero]), dle_int (wrap_succ (by omega)), trivial⟩, ⟨.refl, .refl, .refl, .refl, .refl, trivial⟩, bnd9 rfl rfl rfl⟩
                    · rw [ej] at hgj
                      rw [em] at hgm
                      repeat' ((conv => whnf); first | refine And.intro (fun h => h) ?_ | refine dcond_t (by assumption) ?_ | refine dcond_f (by assumption) ?_ | (refine dcond_intro ?_ ?_ <;> intro h) | exact .refl | refine And.intro (by kernel_rfl) ?_ | refine And.intro ⟨fun h => h, fun h => h⟩ ?_ | refine ⟨j, And.intro ⟨rfl, hlfj⟩ ?_⟩ | refine ⟨j, And.intro ⟨⟨fun h => h, fun h => h⟩, fun hg => ⟨rfl, hlfj⟩⟩ ?_⟩ | refine ⟨m, And.intro ⟨⟨fun h => h, fun h => h⟩, fun hg => ⟨rfl, hlfm⟩⟩ ?_⟩ | refine ⟨[DV.lst 1 (fj.map intE) false], And.intro hgj ?_⟩ | refine ⟨[DV.lst 1 (fj.map intE) false], And.intro ⟨fun h => h, fun _ => hgj⟩ ?_⟩ | refine ⟨[DV.lst 1 (fm.map intE) false], And.intro hgm ?_⟩ | refine ⟨[DV.lst 1 (fm.map intE) false], And.intro ⟨fun h => h, fun _ => hgm⟩ ?_⟩ | refine ⟨[.lst 1 ((fj : List Int).map intE) false, .lst 1 ((fm : List Int).map intE) false], _, ⟨.refl, .refl, trivial⟩, fun _ => e23, ?_⟩ | refine Exists.intro false ?_ | (refine And.intro ?_ ?_; focus (simp; done)) | fail)
                      all_goals (conv => whnf)
                      · have he := sameI_iff.1 ((Bool.and_eq_true ..).mp h).2
                        clear h
                        refine ⟨m + 1, hmlt, by simp only []; omega, ?_⟩
                        conv => whnf
                        exact ⟨⟨.refl, .refl, .refl, .refl, .refl, .refl, .refl, .refl, .refl, .refl, .refl, dle_int (by rw [hvs, if_pos ⟨h0, he.symm⟩, wrap_i64 (by omega) (by omega)]), dle_int (wrap_succ (by omega)), trivial⟩, ⟨.refl, .refl, .refl, .refl, .refl, trivial⟩, bnd9 rfl rfl rfl⟩
                      · have he : ¬ (fj ≠ [] ∧ fm = fj) := fun hh => by
                          have h5 : 0 < fj.length := List.length_pos_iff.2 h0
                          rw [hh.2, List.length_map, sameI_iff.2 rfl] at h
                          simp at h
                          exact h0 h
                        clear h
                        refine ⟨m + 1, hmlt, by simp only []; omega, ?_⟩
                        conv => whnf
                        exact ⟨⟨.refl, .refl, .refl, .refl, .refl, .refl, .refl, .refl, .refl, .refl, .refl, dle_int (by rw [hvs, if_neg he, Int.add_zero]), dle_int (wrap_succ (by omega)), trivial⟩, ⟨.refl, .refl, .refl, .refl, .refl, trivial⟩, bnd9 rfl rfl rfl⟩
                  · have hmn : m = v.mem.length := by
                      simp at h
                      omega
                    subst hmn
                    clear h
                    conv => whnf
                    refine And.intro (by decide) ?_
                    conv => whnf
                    refine dcond_intro ?_ ?_ <;> intro h
                    · have hfv := of_decide_eq_true h
                      clear h
                      rw [quo9 hn.1 hn.2] at hfv
                      obtain ⟨h0, hDj⟩ : fj ≠ [] ∧ Dec v P G fj := by
                        unfold voteC at hfv
                        have hne : fj ≠ [] := by
                          intro e
                          rw [if_pos e] at hfv
                          omega
                        rw [if_neg hne] at hfv
                        exact ⟨hne, hne, .inr (by omega)⟩
                      have ej : fnE fj = [.lst 1 (fj.map intE) false] := by
                        rcases fnE_cases fj with ⟨_, h⟩ | ⟨h, _⟩
                        · exact absurd h h0
                        · exact h
                      rw [ej] at hgj
                      have e23 := r23 dc fj (by simp only [maxLen]; omega)
                      repeat' ((conv => whnf); first | refine And.intro (fun h => h) ?_ | refine dcond_t (by assumption) ?_ | refine dcond_f (by assumption) ?_ | (refine dcond_intro ?_ ?_ <;> intro h) | exact .refl | refine And.intro (by kernel_rfl) ?_ | refine And.intro ⟨fun h => h, fun h => h⟩ ?_ | refine ⟨j, And.intro ⟨rfl, hlfj⟩ ?_⟩ | refine ⟨j, And.intro ⟨⟨fun h => h, fun h => h⟩, fun hg => ⟨rfl, hlfj⟩⟩ ?_⟩ | refine ⟨[DV.lst 1 (fj.map intE) false], And.intro hgj ?_⟩ | refine ⟨[DV.lst 1 (fj.map intE) false], And.intro ⟨fun h => h, fun _ => hgj⟩ ?_⟩ | refine .inl ⟨_, _, DleAll_refl _, e23, ?_⟩ | refine ⟨_, _, DleAll_refl _, fun _ => e23, ?_⟩ | refine ⟨_, _, DleAll_refl _, e23, ?_⟩ | refine Exists.intro false ?_ | (refine And.intro ?_ ?_; focus (simp; done)) | fail)
                      all_goals (conv => whnf)
                      · exfalso
                        have hne : dc ≠ [] := fun e => by
                          rw [e] at h
                          exact absurd h (by simp)
                        rw [dec_same hvw hI2 (hjd hne) hDj, sameI_iff.2 rfl] at h
                        simp at h
                      · clear h
                        refine ⟨(j + 1, fj), ⟨hjlt, fun _ => hDj, by simp only []; omega⟩, by simp only []; omega, ?_⟩
                        conv => whnf
                        exact ⟨⟨.refl, .refl, .refl, .refl, .refl, .refl, .refl, .refl, .refl, .refl, dle_int (wrap_succ (by omega)), trivial⟩, ⟨.refl, .refl, .refl, .refl, .refl, trivial⟩, bnd9 rfl rfl rfl⟩
                    · refine ⟨(j + 1, dc), ⟨hjlt, hjd, hjl⟩, by simp only []; omega, ?_⟩
                      conv => whnf
                      exact ⟨⟨.refl, .refl, .refl, .refl, .refl, .refl, .refl, .refl, .refl, .refl, dle_int (wrap_succ (by omega)), trivial⟩, ⟨.refl, .refl, .refl, .refl, .refl, trivial⟩, bnd9 rfl rfl rfl⟩
              · clear h
                conv => whnf
                refine ⟨(i + 1, { P with dec := dc }), ⟨hlt, G, inv_dec hI2 dc, hjd, hF2, hjl⟩, by simp only []; omega, ?_⟩
                conv => whnf
                exact ⟨⟨.refl, .refl, .refl, .refl, .refl, .refl, .refl, .refl, .refl, dle_int (wrap_succ (by omega)), trivial⟩, ⟨.refl, .refl, .refl, .refl, .refl, trivial⟩, bnd9 rfl rfl rfl⟩
          · clear h
            have hN : InvN v s G := ⟨hI, hD, hF1, hd32⟩
            obtain ⟨P, hP⟩ : ∃ P : PS, P = s := ⟨_, rfl⟩
            rw [← hP] at hN
            obtain ⟨hI2, hD2, hF2, hd2⟩ := hN
            have hFl : ∀ j, (fastA P j).length ≤ 1 := fun j => fast_one hF2 j
            refine ⟨Nat × List Int, fun y => ⟨[(1, .lst 5 (l.map stE) false), (2, .lp 0 0), (5, .lst 1 (cuts.map cutE) false), (6, i64 v.mem.length), (7, .own 1), (8, .own 2), (10, .lp 3 0), (11, .lp 4 0), (12, .lst 1 (y.2.map intE) false), (13, i64 i), (29, i64 y.1)], [.cells 44 (viewE v), .row 28 3 (P.acc.map accE), .row 26 1 (P.fast.map fnE), .cells 63 (triE P.rep P.cho), .cells 65 (P.took.map i64)]⟩, fun y => y.1 ≤ v.mem.length ∧ (y.2 ≠ [] → Dec v P G y.2) ∧ y.2.length ≤ 32, fun y => v.mem.length - y.1, [], ⟨(0, P.dec), ⟨Nat.zero_le _, hD2, hd2⟩, ?_⟩, ?_⟩
            · subst hP
              conv => whnf
              refine ⟨⟨.refl, .refl, .refl, .refl, .refl, .refl, .refl, .refl, .refl, .refl, .refl, trivial⟩, ⟨.refl, ?_, ?_, ?_, ?_, trivial⟩, bnd9 rfl rfl rfl⟩
              · exact .refl
              · exact .refl
              · exact .refl
              · exact .refl
            · clear hP
              intro ⟨j, dc⟩ ⟨hj, hjd, hjl⟩
              simp only at hj hjd hjl
              conv => whnf
              refine dcond_intro ?_ ?_ <;> intro h
              · have hjlt : j < v.mem.length := by simpa using h
                clear h
                have hlfj : j < (P.fast.map fnE).length := by rw [List.length_map, hI2.lfast]; exact hjlt
                have hgj := fast_get hI2 hjlt
                obtain ⟨fj, hfj⟩ : ∃ fj, fj = fastA P j := ⟨_, rfl⟩
                have hfl : fj.length ≤ 1 := by rw [hfj]; exact hFl j
                rw [← hfj] at hgj
                conv => whnf
                refine ⟨Nat, fun m => ⟨[(1, .lst 5 (l.map stE) false), (2, .lp 0 0), (5, .lst 1 (cuts.map cutE) false), (6, i64 v.mem.length), (7, .own 1), (8, .own 2), (10, .lp 3 0), (11, .lp 4 0), (12, .lst 1 (dc.map intE) false), (13, i64 i), (29, i64 j), (30, i64 (voteC P fj m)), (31, i64 m)], [.cells 44 (viewE v), .row 28 3 (P.acc.map accE), .row 26 1 (P.fast.map fnE), .cells 63 (triE P.rep P.cho), .cells 65 (P.took.map i64)]⟩, fun m => m ≤ v.mem.length, fun m => v.mem.length - m, [], ⟨0, Nat.zero_le _, ?_⟩, ?_⟩
                · conv => whnf
                  exact ⟨⟨.refl, .refl, .refl, .refl, .refl, .refl, .refl, .refl, .refl, .refl, .refl, dle_int (voteC_zero _ _).symm, .refl, trivial⟩, ⟨.refl, .refl, .refl, .refl, .refl, trivial⟩, bnd9 rfl rfl rfl⟩
                · intro m hm
                  conv => whnf
                  refine dcond_intro ?_ ?_ <;> intro h
                  · have hmlt : m < v.mem.length := by simpa using h
                    clear h
                    have hlfm : m < (P.fast.map fnE).length := by rw [List.length_map, hI2.lfast]; exact hmlt
                    have hgm := fast_get hI2 hmlt
                    have hvs := voteC_succ P fj m
                    have hvl := voteC_le P fj m
                    obtain ⟨fm, hfm⟩ : ∃ fm, fm = fastA P m := ⟨_, rfl⟩
                    rw [← hfm] at hgm hvs
                    have e23 := r23 fj fm (by simp only [maxLen]; omega)
                    clear hfj hfm
                    rcases fnE_cases fj with ⟨ej, h0⟩ | ⟨ej, h0⟩ <;> rcases fnE_cases fm with ⟨em, h1⟩ | ⟨em, h1⟩
                    · rw [ej] at hgj
                      rw [em] at hgm
                      subst h0
                      subst h1
                      repeat' ((conv => whnf); first | refine And.intro (fun h => h) ?_ | refine dcond_t (by assumption) ?_ | refine dcond_f (by assumption) ?_ | (refine dcond_intro ?_ ?_ <;> intro h) | exact .refl | refine And.intro (by kernel_rfl) ?_ | refine And.intro ⟨fun h => h, fun h => h⟩ ?_ | refine ⟨j, And.intro ⟨rfl, hlfj⟩ ?_⟩ | refine ⟨j, And.intro ⟨⟨fun h => h, fun h => h⟩, fun hg => ⟨rfl, hlfj⟩⟩ ?_⟩ | refine ⟨m, And.intro ⟨⟨fun h => h, fun h => h⟩, fun hg => ⟨rfl, hlfm⟩⟩ ?_⟩ | refine ⟨[DV.nl], And.intro hgj ?_⟩ | refine ⟨[DV.nl], And.intro ⟨fun h => h, fun _ => hgj⟩ ?_⟩ | refine ⟨[DV.nl], And.intro hgm ?_⟩ | refine ⟨[DV.nl], And.intro ⟨fun h => h, fun _ => hgm⟩ ?_⟩ | refine ⟨[.lst 1 (([] : List Int).map intE) false, .lst 1 (([] : List Int).map intE) false], _, ⟨.nl, .nl, trivial⟩, fun _ => e23, ?_⟩ | refine Exists.intro false ?_ | (refine And.intro ?_ ?_; focus (simp; done)) | fail)
                      all_goals (conv => whnf)
                      refine ⟨m + 1, hmlt, by simp only []; omega, ?_⟩
                      conv => whnf
                      exact ⟨⟨.refl, .refl, .refl, .refl, .refl, .refl, .refl, .refl, .refl, .refl, .refl, dle_int (by rw [hvs]; simp), dle_int (wrap_succ (by omega)), trivial⟩, ⟨.refl, .refl, .refl, .refl, .refl, trivial⟩, bnd9 rfl rfl rfl⟩
                    · rw [ej] at hgj
                      rw [em] at hgm
                      subst h0
                      repeat' ((conv => whnf); first | refine And.intro (fun h => h) ?_ | refine dcond_t (by assumption) ?_ | refine dcond_f (by assumption) ?_ | (refine dcond_intro ?_ ?_ <;> intro h) | exact .refl | refine And.intro (by kernel_rfl) ?_ | refine And.intro ⟨fun h => h, fun h => h⟩ ?_ | refine ⟨j, And.intro ⟨rfl, hlfj⟩ ?_⟩ | refine ⟨j, And.intro ⟨⟨fun h => h, fun h => h⟩, fun hg => ⟨rfl, hlfj⟩⟩ ?_⟩ | refine ⟨m, And.intro ⟨⟨fun h => h, fun h => h⟩, fun hg => ⟨rfl, hlfm⟩⟩ ?_⟩ | refine ⟨[DV.nl], And.intro hgj ?_⟩ | refine ⟨[DV.nl], And.intro ⟨fun h => h, fun _ => hgj⟩ ?_⟩ | refine ⟨[DV.lst 1 (fm.map intE) false], And.intro hgm ?_⟩ | refine ⟨[DV.lst 1 (fm.map intE) false], And.intro ⟨fun h => h, fun _ => hgm⟩ ?_⟩ | refine ⟨[.lst 1 (([] : List Int).map intE) false, .lst 1 ((fm : List Int).map intE) false], _, ⟨.nl, .refl, trivial⟩, fun _ => e23, ?_⟩ | refine Exists.intro false ?_ | (refine And.intro ?_ ?_; focus (simp; done)) | fail)
                      all_goals (conv => whnf)
                      refine ⟨m + 1, hmlt, by simp only []; omega, ?_⟩
                      conv => whnf
                      exact ⟨⟨.refl, .refl, .refl, .refl, .refl, .refl, .refl, .refl, .refl, .refl, .refl, dle_int (by rw [hvs]; simp), dle_int (wrap_succ (by omega)), trivial⟩, ⟨.refl, .refl, .refl, .refl, .refl, trivial⟩, bnd9 rfl rfl rfl⟩
                    · rw [ej] at hgj
                      rw [em] at hgm
                      subst h1
                      repeat' ((conv => whnf); first | refine And.intro (fun h => h) ?_ | refine dcond_t (by assumption) ?_ | refine dcond_f (by assumption) ?_ | (refine dcond_intro ?_ ?_ <;> intro h) | exact .refl | refine And.intro (by kernel_rfl) ?_ | refine And.intro ⟨fun h => h, fun h => h⟩ ?_ | refine ⟨j, And.intro ⟨rfl, hlfj⟩ ?_⟩ | refine ⟨j, And.intro ⟨⟨fun h => h, fun h => h⟩, fun hg => ⟨rfl, hlfj⟩⟩ ?_⟩ | refine ⟨m, And.intro ⟨⟨fun h => h, fun h => h⟩, fun hg => ⟨rfl, hlfm⟩⟩ ?_⟩ | refine ⟨[DV.lst 1 (fj.map intE) false], And.intro hgj ?_⟩ | refine ⟨[DV.lst 1 (fj.map intE) false], And.intro ⟨fun h => h, fun _ => hgj⟩ ?_⟩ | refine ⟨[DV.nl], And.intro hgm ?_⟩ | refine ⟨[DV.nl], And.intro ⟨fun h => h, fun _ => hgm⟩ ?_⟩ | refine ⟨[.lst 1 ((fj : List Int).map intE) false, .lst 1 (([] : List Int).map intE) false], _, ⟨.refl, .nl, trivial⟩, fun _ => e23, ?_⟩ | refine Exists.intro false ?_ | (refine And.intro ?_ ?_; focus (simp; done)) | fail)
                      all_goals (conv => whnf)
                      · have he := sameI_iff.1 ((Bool.and_eq_true ..).mp h).2
                        clear h
                        refine ⟨m + 1, hmlt, by simp only []; omega, ?_⟩
                        conv => whnf
                        exact ⟨⟨.refl, .refl, .refl, .refl, .refl, .refl, .refl, .refl, .refl, .refl, .refl, dle_int (by rw [hvs, if_pos ⟨h0, he.symm⟩, wrap_i64 (by omega) (by omega)]), dle_int (wrap_succ (by omega)), trivial⟩, ⟨.refl, .refl, .refl, .refl, .refl, trivial⟩, bnd9 rfl rfl rfl⟩
                      · have he : ¬ (fj ≠ [] ∧ [] = fj) := fun hh => by
                          have h5 : 0 < fj.length := List.length_pos_iff.2 h0
                          rw [hh.2, List.length_map, sameI_iff.2 rfl] at h
                          simp at h
                          exact h0 h
                        clear h
                        refine ⟨m + 1, hmlt, by simp only []; omega, ?_⟩
                        conv => whnf
                        exact ⟨⟨.refl, .refl, .refl, .refl, .refl, .refl, .refl, .refl, .refl, .refl, .refl, dle_int (by rw [hvs, if_neg he, Int.add_zero]), dle_int (wrap_succ (by omega)), trivial⟩, ⟨.refl, .refl, .refl, .refl, .refl, trivial⟩, bnd9 rfl rfl rfl⟩
                    · rw [ej] at hgj
                      rw [em] at hgm
                      repeat' ((conv => whnf); first | refine And.intro (fun h => h) ?_ | refine dcond_t (by assumption) ?_ | refine dcond_f (by assumption) ?_ | (refine dcond_intro ?_ ?_ <;> intro h) | exact .refl | refine And.intro (by kernel_rfl) ?_ | refine And.intro ⟨fun h => h, fun h => h⟩ ?_ | refine ⟨j, And.intro ⟨rfl, hlfj⟩ ?_⟩ | refine ⟨j, And.intro ⟨⟨fun h => h, fun h => h⟩, fun hg => ⟨rfl, hlfj⟩⟩ ?_⟩ | refine ⟨m, And.intro ⟨⟨fun h => h, fun h => h⟩, fun hg => ⟨rfl, hlfm⟩⟩ ?_⟩ | refine ⟨[DV.lst 1 (fj.map intE) false], And.intro hgj ?_⟩ | refine ⟨[DV.lst 1 (fj.map intE) false], And.intro ⟨fun h => h, fun _ => hgj⟩ ?_⟩ | refine ⟨[DV.lst 1 (fm.map intE) false], And.intro hgm ?_⟩ | refine ⟨[DV.lst 1 (fm.map intE) false], And.intro ⟨fun h => h, fun _ => hgm⟩ ?_⟩ | refine ⟨[.lst 1 ((fj : List Int).map intE) false, .lst 1 ((fm : List Int).map intE) false], _, ⟨.refl, .refl, trivial⟩, fun _ => e23, ?_⟩ | refine Exists.intro false ?_ | (refine And.intro ?_ ?_; focus (simp; done)) | fail)
                      all_goals (conv => whnf)
                      · have he := sameI_iff.1 ((Bool.and_eq_true ..).mp h).2
                        clear h
                        refine ⟨m + 1, hmlt, by simp only []; omega, ?_⟩
                        conv => whnf
                        exact ⟨⟨.refl, .refl, .refl, .refl, .refl, .refl, .refl, .refl, .refl, .refl, .refl, dle_int (by rw [hvs, if_pos ⟨h0, he.symm⟩, wrap_i64 (by omega) (by omega)]), dle_int (wrap_succ (by omega)), trivial⟩, ⟨.refl, .refl, .refl, .refl, .refl, trivial⟩, bnd9 rfl rfl rfl⟩
                      · have he : ¬ (fj ≠ [] ∧ fm = fj) := fun hh => by
                          have h5 : 0 < fj.length := List.length_pos_iff.2 h0
                          rw [hh.2, List.length_map, sameI_iff.2 rfl] at h
                          simp at h
                          exact h0 h
                        clear h
                        refine ⟨m + 1, hmlt, by simp only []; omega, ?_⟩
                        conv => whnf
                        exact ⟨⟨.refl, .refl, .refl, .refl, .refl, .refl, .refl, .refl, .refl, .refl, .refl, dle_int (by rw [hvs, if_neg he, Int.add_zero]), dle_int (wrap_succ (by omega)), trivial⟩, ⟨.refl, .refl, .refl, .refl, .refl, trivial⟩, bnd9 rfl rfl rfl⟩
                  · have hmn : m = v.mem.length := by
                      simp at h
                      omega
                    subst hmn
                    clear h
                    conv => whnf
                    refine And.intro (by decide) ?_
                    conv => whnf
                    refine dcond_intro ?_ ?_ <;> intro h
                    · have hfv := of_decide_eq_true h
                      clear h
                      rw [quo9 hn.1 hn.2] at hfv
                      obtain ⟨h0, hDj⟩ : fj ≠ [] ∧ Dec v P G fj := by
                        unfold voteC at hfv
                        have hne : fj ≠ [] := by
                          intro e
                          rw [if_pos e] at hfv
                          omega
                        rw [if_neg hne] at hfv
                        exact ⟨hne, hne, .inr (by omega)⟩
                      have ej : fnE fj = [.lst 1 (fj.map intE) false] := by
                        rcases fnE_cases fj with ⟨_, h⟩ | ⟨h, _⟩
                        · exact absurd h h0
                        · exact h
                      rw [ej] at hgj
                      have e23 := r23 dc fj (by simp only [maxLen]; omega)
                      repeat' ((conv => whnf); first | refine And.intro (fun h => h) ?_ | refine dcond_t (by assumption) ?_ | refine dcond_f (by assumption) ?_ | (refine dcond_intro ?_ ?_ <;> intro h) | exact .refl | refine And.intro (by kernel_rfl) ?_ | refine And.intro ⟨fun h => h, fun h => h⟩ ?_ | refine ⟨j, And.intro ⟨rfl, hlfj⟩ ?_⟩ | refine ⟨j, And.intro ⟨⟨fun h => h, fun h => h⟩, fun hg => ⟨rfl, hlfj⟩⟩ ?_⟩ | refine ⟨[DV.lst 1 (fj.map intE) false], And.intro hgj ?_⟩ | refine ⟨[DV.lst 1 (fj.map intE) false], And.intro ⟨fun h => h, fun _ => hgj⟩ ?_⟩ | refine .inl ⟨_, _, DleAll_refl _, e23, ?_⟩ | refine ⟨_, _, DleAll_refl _, fun _ => e23, ?_⟩ | refine ⟨_, _, DleAll_refl _, e23, ?_⟩ | refine Exists.intro false ?_ | (refine And.intro ?_ ?_; focus (simp; done)) | fail)
                      all_goals (conv => whnf)
                      · exfalso
                        have hne : dc ≠ [] := fun e => by
                          rw [e] at h
                          exact absurd h (by simp)
                        rw [dec_same hvw hI2 (hjd hne) hDj, sameI_iff.2 rfl] at h
                        simp at h
                      · clear h
                        refine ⟨(j + 1, fj), ⟨hjlt, fun _ => hDj, by simp only []; omega⟩, by simp only []; omega, ?_⟩
                        conv => whnf
                        exact ⟨⟨.refl, .refl, .refl, .refl, .refl, .refl, .refl, .refl, .refl, .refl, dle_int (wrap_succ (by omega)), trivial⟩, ⟨.refl, .refl, .refl, .refl, .refl, trivial⟩, bnd9 rfl rfl rfl⟩
                    · refine ⟨(j + 1, dc), ⟨hjlt, hjd, hjl⟩, by simp only []; omega, ?_⟩
                      conv => whnf
                      exact ⟨⟨.refl, .refl, .refl, .refl, .refl, .refl, .refl, .refl, .refl, .refl, dle_int (wrap_succ (by omega)), trivial⟩, ⟨.refl, .refl, .refl, .refl, .refl, trivial⟩, bnd9 rfl rfl rfl⟩
              · clear h
                conv => whnf
                refine ⟨(i + 1, { P with dec := dc }), ⟨hlt, G, inv_dec hI2 dc, hjd, hF2, hjl⟩, by simp only []; omega, ?_⟩
                conv => whnf
                exact ⟨⟨.refl, .refl, .refl, .refl, .refl, .refl, .refl, .refl, .refl, dle_int (wrap_succ (by omega)), trivial⟩, ⟨.refl, .refl, .refl, .refl, .refl, trivial⟩, bnd9 rfl rfl rfl⟩
        · clear h
          have hct : (s.took.map i64)[0 + k * 16 + b * 1]? = some (i64 (s.took.getD t 0)) := by
            rw [show 0 + k * 16 + b * 1 = t by omega]
            have : t < s.took.length := by rw [hI.ltook]; exact hkt.1
            simp [this]
          have hst2 : 0 + k * 16 + b * 1 + 1 ≤ (s.took.map i64).length := by rw [List.length_map, hI.ltook]; omega
          have hcl32 : choA s t ≠ [] → (choA s t).length ≤ 32 := fun h => by
            have := (ids_ne (hI.app t hkt h)).2
            omega
          repeat' ((conv => whnf); first | refine And.intro (fun h => h) ?_ | refine dcond_t (by assumption) ?_ | refine dcond_f (by assumption) ?_ | (refine dcond_intro ?_ ?_ <;> intro h) | exact .refl | refine And.intro (by kernel_rfl) ?_ | refine And.intro ⟨fun h => h, fun h => h⟩ ?_ | refine ⟨.lst 1 ((choA s t).map intE) false, And.intro hc1 ?_⟩ | refine Exists.intro false ?_ | (refine And.intro ?_ ?_; focus (simp; done)) | fail)
          all_goals (conv => whnf)
          · clear h
            refine ⟨(i + 1, s), ⟨hlt, G, hI, hD, hF1, hd32⟩, by simp only []; omega, ?_⟩
            conv => whnf
            exact ⟨⟨.refl, .refl, .refl, .refl, .refl, .refl, .refl, .refl, .refl, dle_int (wrap_succ (by omega)), trivial⟩, ⟨.refl, .refl, .refl, .refl, .refl, trivial⟩, bnd9 rfl rfl rfl⟩
          · have hch : choA s t ≠ [] := fun e => by
              rw [e] at h
              exact absurd h (by simp)
            clear h
            have hcl32 := hcl32 hch
            have ev := r18 (accA s a) (by omega) (rk v t) (choA s t) (by omega)
            have hiv := inv_accept hvw hI hal hkt hch
            have eV : accS v s a t = { s with acc := s.acc.set a (acceptR (accA s a) (rk v t) (choA s t)).1, took := if (accA s a).rank = rk v t then s.took else s.took.set t (s.took.getD t 0 + 1) } := rfl
            generalize acceptR (accA s a) (rk v t) (choA s t) = V at *
            obtain ⟨V1, V2⟩ := V
            simp only at ev hiv eV
            have hct2 : (dset (s.took.map i64) (0 + k * 16 + b * 1) (i64 (IntKind.i64.wrap (s.took.getD t 0 + 1))))[0 + k * 16 + b * 1]? = some (i64 (IntKind.i64.wrap (s.took.getD t 0 + 1))) := by
              have : t < s.took.length := by rw [hI.ltook]; exact hkt.1
              rw [show 0 + k * 16 + b * 1 = t by omega, dset_set]
              simp [this]
            have e23 := r23 s.dec (choA s t) (by simp only [maxLen]; omega)
            repeat' ((conv => whnf); first | refine And.intro (fun h => h) ?_ | refine dcond_t (by assumption) ?_ | refine dcond_f (by assumption) ?_ | (refine dcond_intro ?_ ?_ <;> intro h) | exact .refl | refine And.intro (by kernel_rfl) ?_ | refine And.intro ⟨fun h => h, fun h => h⟩ ?_ | refine ⟨.lst 1 ((choA s t).map intE) false, And.intro ⟨fun h => h, fun _ => hc1⟩ ?_⟩ | refine .inl ⟨_, _, DleAll_refl _, e23, ?_⟩ | refine ⟨_, _, DleAll_refl _, fun _ => e23, ?_⟩ | refine ⟨_, _, DleAll_refl _, e23, ?_⟩ | refine ⟨i64 (IntKind.i64.wrap (s.took.getD t 0 + 1)), And.intro hct2 ?_⟩ | refine ⟨a, And.intro ⟨hixa, hla⟩ ?_⟩ | refine ⟨accE (accA s a), And.intro hgacc ?_⟩ | refine ⟨.lst 1 ((choA s t).map intE) false, And.intro hc1 ?_⟩ | refine .inl ⟨_, _, DleAll_refl _, ev, ?_⟩ | refine ⟨_, _, DleAll_refl _, fun _ => ev, ?_⟩ | refine ⟨_, _, DleAll_refl _, ev, ?_⟩ | refine ⟨k, And.intro ⟨hixk, hkl⟩ ?_⟩ | refine ⟨b, And.intro ⟨hixb, (by omega)⟩ ?_⟩ | refine ⟨i64 (s.took.getD t 0), And.intro hct ?_⟩ | refine And.intro hst2 ?_ | refine Exists.intro false ?_ | (refine And.intro ?_ ?_; focus (simp; done)) | fail)
            all_goals (conv => whnf)
            · rename_i hV hr hq
              obtain ⟨hI2, hDD⟩ := hiv hV
              have hr9 : ¬ (accA s a).rank = rk v t := by simpa using hr
              rw [eV, if_neg hr9] at hI2 hDD
              have hx16 : 0 ≤ s.took.getD t 0 ∧ s.took.getD t 0 ≤ 16 := by
                have h1 := hI.took t hkt
                have h2 := cnt_le v.mem.length fun a => G a t
                omega
              have hw9 : IntKind.i64.wrap (s.took.getD t 0 + 1) = s.took.getD t 0 + 1 := wrap_i64 (by omega) (by omega)
              have hch2 : choA ({ s with acc := s.acc.set a V1, took := s.took.set t (s.took.getD t 0 + 1) } : PS) t ≠ [] := hch
              have hq2 : ((v.mem.length / 2 + 1 : Nat) : Int) ≤ ({ s with acc := s.acc.set a V1, took := s.took.set t (s.took.getD t 0 + 1) } : PS).took.getD t 0 := by
                have h9 := of_decide_eq_true hq
                rw [quo2 hn.2, hw9] at h9
                have h8 : (s.took.set t (s.took.getD t 0 + 1)).getD t 0 = s.took.getD t 0 + 1 := by
                  have : t < s.took.length := by rw [hI.ltook]; exact hkt.1
                  rw [getD_set this, if_pos rfl]
                exact h8.symm ▸ h9
              have hD9 := took_dec hI2 hkt hch2 hq2
              exfalso
              have hne : s.dec ≠ [] := fun e => by
                rw [e] at h
                exact absurd h (by simp)
              have e9 := dec_same hvw hI2 (hDD _ (hD hne)) hD9
              rw [show s.dec = choA s t from e9, sameI_iff.2 rfl] at h
              simp at h
            · rename_i hV hr hq
              obtain ⟨hI2, hDD⟩ := hiv hV
              have hr9 : ¬ (accA s a).rank = rk v t := by simpa using hr
              rw [eV, if_neg hr9] at hI2 hDD
              have hx16 : 0 ≤ s.took.getD t 0 ∧ s.took.getD t 0 ≤ 16 := by
                have h1 := hI.took t hkt
                have h2 := cnt_le v.mem.length fun a => G a t
                omega
              have hw9 : IntKind.i64.wrap (s.took.getD t 0 + 1) = s.took.getD t 0 + 1 := wrap_i64 (by omega) (by omega)
              have hch2 : choA ({ s with acc := s.acc.set a V1, took := s.took.set t (s.took.getD t 0 + 1) } : PS) t ≠ [] := hch
              have hq2 : ((v.mem.length / 2 + 1 : Nat) : Int) ≤ ({ s with acc := s.acc.set a V1, took := s.took.set t (s.took.getD t 0 + 1) } : PS).took.getD t 0 := by
                have h9 := of_decide_eq_true hq
                rw [quo2 hn.2, hw9] at h9
                have h8 : (s.took.set t (s.took.getD t 0 + 1)).getD t 0 = s.took.getD t 0 + 1 := by
                  have : t < s.took.length := by rw [hI.ltook]; exact hkt.1
                  rw [getD_set this, if_pos rfl]
                exact h8.symm ▸ h9
              have hD9 := took_dec hI2 hkt hch2 hq2
              clear h
              have hN : InvN v ({ ({ s with acc := s.acc.set a V1, took := s.took.set t (s.took.getD t 0 + 1) } : PS) with dec := choA s t } : PS) (accG G a t) := ⟨inv_dec hI2 _, fun _ => hD9, hF1, hcl32⟩
              obtain ⟨P, hP⟩ : ∃ P : PS, P = ({ ({ s with acc := s.acc.set a V1, took := s.took.set t (s.took.getD t 0 + 1) } : PS) with dec := choA s t } : PS) := ⟨_, rfl⟩
              rw [← hP] at hN
              obtain ⟨hI2, hD2, hF2, hd2⟩ := hN
              have hFl : ∀ j, (fastA P j).length ≤ 1 := fun j => fast_one hF2 j
              refine ⟨Nat × List Int, fun y => ⟨[(1, .lst 5 (l.map stE) false), (2, .lp 0 0), (5, .lst 1 (cuts.map cutE) false), (6, i64 v.mem.length), (7, .own 1), (8, .own 2), (10, .lp 3 0), (11, .lp 4 0), (12, .lst 1 (y.2.map intE) false), (13, i64 i), (29, i64 y.1)], [.cells 44 (viewE v), .row 28 3 (P.acc.map accE), .row 26 1 (P.fast.map fnE), .cells 63 (triE P.rep P.cho), .cells 65 (P.took.map i64)]⟩, fun y => y.1 ≤ v.mem.length ∧ (y.2 ≠ [] → Dec v P (accG G a t) y.2) ∧ y.2.length ≤ 32, fun y => v.mem.length - y.1, [], ⟨(0, P.dec), ⟨Nat.zero_le _, hD2, hd2⟩, ?_⟩, ?_⟩
              · subst hP
                conv => whnf
                refine ⟨⟨.refl, .refl, .refl, .refl, .refl, .refl, .refl, .refl, .refl, .refl, .refl, trivial⟩, ⟨.refl, ?_, ?_, ?_, ?_, trivial⟩, bnd9 rfl rfl rfl⟩
                · refine ole_row (show (s.acc.map accE).set a (accE V1) = _ from ?_)
                  rw [List.map_set]
                · exact .refl
                · exact .refl
                · refine ole_cells (show dset (s.took.map i64) (0 + k * 16 + b * 1) (i64 (IntKind.i64.wrap (s.took.getD t 0 + 1))) = _ from ?_)
                  rw [show 0 + k * 16 + b * 1 = t by omega, dset_set, hw9]
              · clear hP
                intro ⟨j, dc⟩ ⟨hj, hjd, hjl⟩
                simp only at hj hjd hjl
                conv => whnf
                refine dcond_intro ?_ ?_ <;> intro h
                · have hjlt : j < v.mem.length := by simpa using h
                  clear h
                  have hlfj : j < (P.fast.map fnE).length := by rw [List.length_map, hI2.lfast]; exact hjlt
                  have hgj := fast_get hI2 hjlt
                  obtain ⟨fj, hfj⟩ : ∃ fj, fj = fastA P j := ⟨_, rfl⟩
                  have hfl : fj.length ≤ 1 := by rw [hfj]; exact hFl j
                  rw [← hfj] at hgj
                  conv => whnf
                  refine ⟨Nat, fun m => ⟨[(1, .lst 5 (l.map stE) false), (2, .lp 0 0), (5, .lst 1 (cuts.map cutE) false), (6, i64 v.mem.length), (7, .own 1), (8, .own 2), (10, .lp 3 0), (11, .lp 4 0), (12, .lst 1 (dc.map intE) false), (13, i64 i), (29, i64 j), (30, i64 (voteC P fj m)), (31, i64 m)], [.cells 44 (viewE v), .row 28 3 (P.acc.map accE), .row 26 1 (P.fast.map fnE), .cells 63 (triE P.rep P.cho), .cells 65 (P.took.map i64)]⟩, fun m => m ≤ v.mem.length, fun m => v.mem.length - m, [], ⟨0, Nat.zero_le _, ?_⟩, ?_⟩
                  · conv => whnf
                    exact ⟨⟨.refl, .refl, .refl, .refl, .refl, .refl, .refl, .refl, .refl, .refl, .refl, dle_int (voteC_zero _ _).symm, .refl, trivial⟩, ⟨.refl, .refl, .refl, .refl, .refl, trivial⟩, bnd9 rfl rfl rfl⟩
                  · intro m hm
                    conv => whnf
                    refine dcond_intro ?_ ?_ <;> intro h
                    · have hmlt : m < v.mem.length := by simpa using h
                      clear h
                      have hlfm : m < (P.fast.map fnE).length := by rw [List.length_map, hI2.lfast]; exact hmlt
                      have hgm := fast_get hI2 hmlt
                      have hvs := voteC_succ P fj m
                      have hvl := voteC_le P fj m
                      obtain ⟨fm, hfm⟩ : ∃ fm, fm = fastA P m := ⟨_, rfl⟩
                      rw [← hfm] at hgm hvs
                      have e23 := r23 fj fm (by simp only [maxLen]; omega)
                      clear hfj hfm
                      rcases fnE_cases fj with ⟨ej, h0⟩ | ⟨ej, h0⟩ <;> rcases fnE_cases fm with ⟨em, h1⟩ | ⟨em, h1⟩
                      · rw [ej] at hgj
                        rw [em] at hgm
                        subst h0
                        subst h1
                        repeat' ((conv => whnf); first | refine And.intro (fun h => h) ?_ | refine dcond_t (by assumption) ?_ | refine dcond_f (by assumption) ?_ | (refine dcond_intro ?_ ?_ <;> intro h) | exact .refl | refine And.intro (by kernel_rfl) ?_ | refine And.intro ⟨fun h => h, fun h => h⟩ ?_ | refine ⟨j, And.intro ⟨rfl, hlfj⟩ ?_⟩ | refine ⟨j, And.intro ⟨⟨fun h => h, fun h => h⟩, fun hg => ⟨rfl, hlfj⟩⟩ ?_⟩ | refine ⟨m, And.intro ⟨⟨fun h => h, fun h => h⟩, fun hg => ⟨rfl, hlfm⟩⟩ ?_⟩ | refine ⟨[DV.nl], And.intro hgj ?_⟩ | refine ⟨[DV.nl], And.intro ⟨fun h => h, fun _ => hgj⟩ ?_⟩ | refine ⟨[DV.nl], And.intro hgm ?_⟩ | refine ⟨[DV.nl], And.intro ⟨fun h => h, fun _ => hgm⟩ ?_⟩ | refine ⟨[.lst 1 (([] : List Int).map intE) false, .lst 1 (([] : List Int).map intE) false], _, ⟨.nl, .nl, trivial⟩, fun _ => e23, ?_⟩ | refine Exists.intro false ?_ | (refine And.intro ?_ ?_; focus (simp; done)) | fail)
                        all_goals (conv => whnf)
                        refine ⟨m + 1, hmlt, by simp only []; omega, ?_⟩
                        conv => whnf
                        exact ⟨⟨.refl, .refl, .refl, .refl, .refl, .refl, .refl, .refl, .refl, .refl, .refl, dle_int (by rw [hvs]; simp), dle_int (wrap_succ (by omega)), trivial⟩, ⟨.refl, .refl, .refl, .refl, .refl, trivial⟩, bnd9 rfl rfl rfl⟩
                      · rw [ej] at hgj
                        rw [em] at hgm
                        subst h0
                        repeat' ((conv => whnf); first | refine And.intro (fun h => h) ?_ | refine dcond_t (by assumption) ?_ | refine dcond_f (by assumption) ?_ | (refine dcond_intro ?_ ?_ <;> intro h) | exact .refl | refine And.intro (by kernel_rfl) ?_ | refine And.intro ⟨fun h => h, fun h => h⟩ ?_ | refine ⟨j, And.intro ⟨rfl, hlfj⟩ ?_⟩ | refine ⟨j, And.intro ⟨⟨fun h => h, fun h => h⟩, fun hg => ⟨rfl, hlfj⟩⟩ ?_⟩ | refine ⟨m, And.intro ⟨⟨fun h => h, fun h => h⟩, fun hg => ⟨rfl, hlfm⟩⟩ ?_⟩ | refine ⟨[DV.nl], And.intro hgj ?_⟩ | refine ⟨[DV.nl], And.intro ⟨fun h => h, fun _ => hgj⟩ ?_⟩ | refine ⟨[DV.lst 1 (fm.map intE) false], And.intro hgm ?_⟩ | refine ⟨[DV.lst 1 (fm.map intE) false], And.intro ⟨fun h => h, fun _ => hgm⟩ ?_⟩ | refine ⟨[.lst 1 (([] : List Int).map intE) false, .lst 1 ((fm : List Int).map intE) false], _, ⟨.nl, .refl, trivial⟩, fun _ => e23, ?_⟩ | refine Exists.intro false ?_ | (refine And.intro ?_ ?_; focus (simp; done)) | fail)
                        all_goals (conv => whnf)
                        refine ⟨m + 1, hmlt, by simp only []; omega, ?_⟩
                        conv => whnf
                        exact ⟨⟨.refl, .refl, .refl, .refl, .refl, .refl, .refl, .refl, .refl, .refl, .refl, dle_int (by rw [hvs]; simp), dle_int (wrap_succ (by omega)), trivial⟩, ⟨.refl, .refl, .refl, .refl, .refl, trivial⟩, bnd9 rfl rfl rfl⟩
                      · rw [ej] at hgj
                        rw [em] at hgm
                        subst h1
                        repeat' ((conv => whnf); first | refine And.intro (fun h => h) ?_ | refine dcond_t (by assumption) ?_ | refine dcond_f (by assumption) ?_ | (refine dcond_intro ?_ ?_ <;> intro h) | exact .refl | refine And.intro (by kernel_rfl) ?_ | refine And.intro ⟨fun h => h, fun h => h⟩ ?_ | refine ⟨j, And.intro ⟨rfl, hlfj⟩ ?_⟩ | refine ⟨j, And.intro ⟨⟨fun h => h, fun h => h⟩, fun hg => ⟨rfl, hlfj⟩⟩ ?_⟩ | refine ⟨m, And.intro ⟨⟨fun h => h, fun h => h⟩, fun hg => ⟨rfl, hlfm⟩⟩ ?_⟩ | refine ⟨[DV.lst 1 (fj.map intE) false], And.intro hgj ?_⟩ | refine ⟨[DV.lst 1 (fj.map intE) false], And.intro ⟨fun h => h, fun _ => hgj⟩ ?_⟩ | refine ⟨[DV.nl], And.intro hgm ?_⟩ | refine ⟨[DV.nl], And.intro ⟨fun h => h, fun _ => hgm⟩ ?_⟩ | refine ⟨[.lst 1 ((fj : List Int).map intE) false, .lst 1 (([] : List Int).map intE) false], _, ⟨.refl, .nl, trivial⟩, fun _ => e23, ?_⟩ | refine Exists.intro false ?_ | (refine And.intro ?_ ?_; focus (simp; done)) | fail)
                        all_goals (conv => whnf)
                        · have he := sameI_iff.1 ((Bool.and_eq_true ..).mp h).2
                          clear h
                          refine ⟨m + 1, hmlt, by simp only []; omega, ?_⟩
                          conv => whnf
                          exact ⟨⟨.refl, .refl, .refl, .refl, .refl, .refl, .refl, .refl, .refl, .refl, .refl, dle_int (by rw [hvs, if_pos ⟨h0, he.symm⟩, wrap_i64 (by omega) (by omega)]), dle_int (wrap_succ (by omega)), trivial⟩, ⟨.refl, .refl, .refl, .refl, .refl, trivial⟩, bnd9 rfl rfl rfl⟩
                        · have he : ¬ (fj ≠ [] ∧ [] = fj) := fun hh => by
                            have h5 : 0 < fj.length := List.length_pos_iff.2 h0
                            rw [hh.2, List.length_map, sameI_iff.2 rfl] at h
                            simp at h
                            exact h0 h
                          clear h
                          refine ⟨m + 1, hmlt, by simp only []; omega, ?_⟩
                          conv => whnf
                          exact ⟨⟨.refl, .refl, .refl, .refl, .refl, .refl, .refl, .refl, .refl, .refl, .refl, dle_int (by rw [hvs, if_neg he, Int.add_zero]), dle_int (wrap_succ (by omega)), trivial⟩, ⟨.refl, .refl, .refl, .refl, .refl, trivial⟩, bnd9 rfl rfl rfl⟩
                      · rw [ej] at hgj
                        rw [em] at hgm
                        repeat' ((conv => whnf); first | refine And.intro (fun h => h) ?_ | refine dcond_t (by assumption) ?_ | refine dcond_f (by assumption) ?_ | (refine dcond_intro ?_ ?_ <;> intro h) | exact .refl | refine And.intro (by kernel_rfl) ?_ | refine And.intro ⟨fun h => h, fun h => h⟩ ?_ | refine ⟨j, And.intro ⟨rfl, hlfj⟩ ?_⟩ | refine ⟨j, And.intro ⟨⟨fun h => h, fun h => h⟩, fun hg => ⟨rfl, hlfj⟩⟩ ?_⟩ | refine ⟨m, And.intro ⟨⟨fun h => h, fun h => h⟩, fun hg => ⟨rfl, hlfm⟩⟩ ?_⟩ | refine ⟨[DV.lst 1 (fj.map intE) false], And.intro hgj ?_⟩ | refine ⟨[DV.lst 1 (fj.map intE) false], And.intro ⟨fun h => h, fun _ => hgj⟩ ?_⟩ | refine ⟨[DV.lst 1 (fm.map intE) false], And.intro hgm ?_⟩ | refine ⟨[DV.lst 1 (fm.map intE) false], And.intro ⟨fun h => h, fun _ => hgm⟩ ?_⟩ | refine ⟨[.lst 1 ((fj : List Int).map intE) false, .lst 1 ((fm : List Int).map intE) false], _, ⟨.refl, .refl, trivial⟩, fun _ => e23, ?_⟩ | refine Exists.intro false ?_ | (refine And.intro ?_ ?_; focus (simp; done)) | fail)
                        all_goals (conv => whnf)
                        · have he := sameI_iff.1 ((Bool.and_eq_true ..).mp h).2
                          clear h
                          refine ⟨m + 1, hmlt, by simp only []; omega, ?_⟩
                          conv => whnf
                          exact ⟨⟨.refl, .refl, .refl, .refl, .refl, .refl, .refl, .refl, .refl, .refl, .refl, dle_int (by rw [hvs, if_pos ⟨h0, he.symm⟩, wrap_i64 (by omega) (by omega)]), dle_int (wrap_succ (by omega)), trivial⟩, ⟨.refl, .refl, .refl, .refl, .refl, trivial⟩, bnd9 rfl rfl rfl⟩
                        · have he : ¬ (fj ≠ [] ∧ fm = fj) := fun hh => by
                            have h5 : 0 < fj.length := List.length_pos_iff.2 h0
                            rw [hh.2, List.length_map, sameI_iff.2 rfl] at h
                            simp at h
                            exact h0 h
                          clear h
                          refine ⟨m + 1, hmlt, by simp only []; omega, ?_⟩
                          conv => whnf
                          exact ⟨⟨.refl, .refl, .refl, .refl, .refl, .refl, .refl, .refl, .refl, .refl, .refl, dle_int (by rw [hvs, if_neg he, Int.add_zero]), dle_int (wrap_succ (by omega)), trivial⟩, ⟨.refl, .refl, .refl, .refl, .refl, trivial⟩, bnd9 rfl rfl rfl⟩
                    · have hmn : m = v.mem.length := by
                        simp at h
                        omega
                      subst hmn
                      clear h
                      conv => whnf
                      refine And.intro (by decide) ?_
                      conv => whnf
                      refine dcond_intro ?_ ?_ <;> intro h
                      · have hfv := of_decide_eq_true h
                        clear h
                        rw [quo9 hn.1 hn.2] at hfv
                        obtain ⟨h0, hDj⟩ : fj ≠ [] ∧ Dec v P (accG G a t) fj := by
                          unfold voteC at hfv
                          have hne : fj ≠ [] := by
                            intro e
                            rw [if_pos e] at hfv
                            omega
                          rw [if_neg hne] at hfv
                          exact ⟨hne, hne, .inr (by omega)⟩
                        have ej : fnE fj = [.lst 1 (fj.map intE) false] := by
                          rcases fnE_cases fj with ⟨_, h⟩ | ⟨h, _⟩
                          · exact absurd h h0
                          · exact h
                        rw [ej] at hgj
                        have e23 := r23 dc fj (by simp only [maxLen]; omega)
                        repeat' ((conv => whnf); first | refine And.intro (fun h => h) ?_ | refine dcond_t (by assumption) ?_ | refine dcond_f (by assumption) ?_ | (refine dcond_intro ?_ ?_ <;> intro h) | exact .refl | refine And.intro (by kernel_rfl) ?_ | refine And.intro ⟨fun h => h, fun h => h⟩ ?_ | refine ⟨j, And.intro ⟨rfl, hlfj⟩ ?_⟩ | refine ⟨j, And.intro ⟨⟨fun h => h, fun h => h⟩, fun hg => ⟨rfl, hlfj⟩⟩ ?_⟩ | refine ⟨[DV.lst 1 (fj.map intE) false], And.intro hgj ?_⟩ | refine ⟨[DV.lst 1 (fj.map intE) false], And.intro ⟨fun h => h, fun _ => hgj⟩ ?_⟩ | refine .inl ⟨_, _, DleAll_refl _, e23, ?_⟩ | refine ⟨_, _, DleAll_refl _, fun _ => e23, ?_⟩ | refine ⟨_, _, DleAll_refl _, e23, ?_⟩ | refine Exists.intro false ?_ | (refine And.intro ?_ ?_; focus (simp; done)) | fail)
                        all_goals (conv => whnf)
                        · exfalso
                          have hne : dc ≠ [] := fun e => by
                            rw [e] at h
                            exact absurd h (by simp)
                          rw [dec_same hvw hI2 (hjd hne) hDj, sameI_iff.2 rfl] at h
                          simp at h
                        · clear h
                          refine ⟨(j + 1, fj), ⟨hjlt, fun _ => hDj, by simp only []; omega⟩, by simp only []; omega, ?_⟩
                          conv => whnf
                          exact ⟨⟨.refl, .refl, .refl, .refl, .refl, .refl, .refl, .refl, .refl, .refl, dle_int (wrap_succ (by omega)), trivial⟩, ⟨.refl, .refl, .refl, .refl, .refl, trivial⟩, bnd9 rfl rfl rfl⟩
                      · refine ⟨(j + 1, dc), ⟨hjlt, hjd, hjl⟩, by simp only []; omega, ?_⟩
                        conv => whnf
                        exact ⟨⟨.refl, .refl, .refl, .refl, .refl, .refl, .refl, .refl, .refl, .refl, dle_int (wrap_succ (by omega)), trivial⟩, ⟨.refl, .refl, .refl, .refl, .refl, trivial⟩, bnd9 rfl rfl rfl⟩
                · clear h
                  conv => whnf
                  refine ⟨(i + 1, { P with dec := dc }), ⟨hlt, (accG G a t), inv_dec hI2 dc, hjd, hF2, hjl⟩, by simp only []; omega, ?_⟩
                  conv => whnf
                  exact ⟨⟨.refl, .refl, .refl, .refl, .refl, .refl, .refl, .refl, .refl, dle_int (wrap_succ (by omega)), trivial⟩, ⟨.refl, .refl, .refl, .refl, .refl, trivial⟩, bnd9 rfl rfl rfl⟩
            · rename_i hV hr
              obtain ⟨hI2, hDD⟩ := hiv hV
              have hr9 : ¬ (accA s a).rank = rk v t := by simpa using hr
              rw [eV, if_neg hr9] at hI2 hDD
              have hx16 : 0 ≤ s.took.getD t 0 ∧ s.took.getD t 0 ≤ 16 := by
                have h1 := hI.took t hkt
                have h2 := cnt_le v.mem.length fun a => G a t
                omega
              have hw9 : IntKind.i64.wrap (s.took.getD t 0 + 1) = s.took.getD t 0 + 1 := wrap_i64 (by omega) (by omega)
              clear h
              have hN : InvN v ({ s with acc := s.acc.set a V1, took := s.took.set t (s.took.getD t 0 + 1) } : PS) (accG G a t) := ⟨hI2, fun h => hDD _ (hD h), hF1, hd32⟩
              obtain ⟨P, hP⟩ : ∃ P : PS, P = ({ s with acc := s.acc.set a V1, took := s.took.set t (s.took.getD t 0 + 1) } : PS) := ⟨_, rfl⟩
              rw [← hP] at hN
              obtain ⟨hI2, hD2, hF2, hd2⟩ := hN
              have hFl : ∀ j, (fastA P j).length ≤ 1 := fun j => fast_one hF2 j
              refine ⟨Nat × List Int, fun y => ⟨[(1, .lst 5 (l.map stE) false), (2, .lp 0 0), (5, .lst 1 (cuts.map cutE) false), (6, i64 v.mem.length), (7, .own 1), (8, .own 2), (10, .lp 3 0), (11, .lp 4 0), (12, .lst 1 (y.2.map intE) false), (13, i64 i), (29, i64 y.1)], [.cells 44 (viewE v), .row 28 3 (P.acc.map accE), .row 26 1 (P.fast.map fnE), .cells 63 (triE P.rep P.cho), .cells 65 (P.took.map i64)]⟩, fun y => y.1 ≤ v.mem.length ∧ (y.2 ≠ [] → Dec v P (accG G a t) y.2) ∧ y.2.length ≤ 32, fun y => v.mem.length - y.1, [], ⟨(0, P.dec), ⟨Nat.zero_le _, hD2, hd2⟩, ?_⟩, ?_⟩
              · subst hP
                conv => whnf
                refine ⟨⟨.refl, .refl, .refl, .refl, .refl, .refl, .refl, .refl, .refl, .refl, .refl, trivial⟩, ⟨.refl, ?_, ?_, ?_, ?_, trivial⟩, bnd9 rfl rfl rfl⟩
                · refine ole_row (show (s.acc.map accE).set a (accE V1) = _ from ?_)
                  rw [List.map_set]
                · exact .refl
                · exact .refl
                · refine ole_cells (show dset (s.took.map i64) (0 + k * 16 + b * 1) (i64 (IntKind.i64.wrap (s.took.getD t 0 + 1))) = _ from ?_)
                  rw [show 0 + k * 16 + b * 1 = t by omega, dset_set, hw9]
              · clear hP
                intro ⟨j, dc⟩ ⟨hj, hjd, hjl⟩
                simp only at hj hjd hjl
                conv => whnf
                refine dcond_intro ?_ ?_ <;> intro h
                · have hjlt : j < v.mem.length := by simpa using h
                  clear h
                  have hlfj : j < (P.fast.map fnE).length := by rw [List.length_map, hI2.lfast]; exact hjlt
                  have hgj := fast_get hI2 hjlt
                  obtain ⟨fj, hfj⟩ : ∃ fj, fj = fastA P j := ⟨_, rfl⟩
                  have hfl : fj.length ≤ 1 := by rw [hfj]; exact hFl j
                  rw [← hfj] at hgj
                  conv => whnf
                  refine ⟨Nat, fun m => ⟨[(1, .lst 5 (l.map stE) false), (2, .lp 0 0), (5, .lst 1 (cuts.map cutE) false), (6, i64 v.mem.length), (7, .own 1), (8, .own 2), (10, .lp 3 0), (11, .lp 4 0), (12, .lst 1 (dc.map intE) false), (13, i64 i), (29, i64 j), (30, i64 (voteC P fj m)), (31, i64 m)], [.cells 44 (viewE v), .row 28 3 (P.acc.map accE), .row 26 1 (P.fast.map fnE), .cells 63 (triE P.rep P.cho), .cells 65 (P.took.map i64)]⟩, fun m => m ≤ v.mem.length, fun m => v.mem.length - m, [], ⟨0, Nat.zero_le _, ?_⟩, ?_⟩
                  · conv => whnf
                    exact ⟨⟨.refl, .refl, .refl, .refl, .refl, .refl, .refl, .refl, .refl, .refl, .refl, dle_int (voteC_zero _ _).symm, .refl, trivial⟩, ⟨.refl, .refl, .refl, .refl, .refl, trivial⟩, bnd9 rfl rfl rfl⟩
                  · intro m hm
                    conv => whnf
                    refine dcond_intro ?_ ?_ <;> intro h
                    · have hmlt : m < v.mem.length := by simpa using h
                      clear h
                      have hlfm : m < (P.fast.map fnE).length := by rw [List.length_map, hI2.lfast]; exact hmlt
                      have hgm := fast_get hI2 hmlt
                      have hvs := voteC_succ P fj m
                      have hvl := voteC_le P fj m
                      obtain ⟨fm, hfm⟩ : ∃ fm, fm = fastA P m := ⟨_, rfl⟩
                      rw [← hfm] at hgm hvs
                      have e23 := r23 fj fm (by simp only [maxLen]; omega)
                      clear hfj hfm
                      rcases fnE_cases fj with ⟨ej, h0⟩ | ⟨ej, h0⟩ <;> rcases fnE_cases fm with ⟨em, h1⟩ | ⟨em, h1⟩
                      · rw [ej] at hgj
                        rw [em] at hgm
                        subst h0
                        subst h1
                        repeat' ((conv => whnf); first | refine And.intro (fun h => h) ?_ | refine dcond_t (by assumption) ?_ | refine dcond_f (by assumption) ?_ | (refine dcond_intro ?_ ?_ <;> intro h) | exact .refl | refine And.intro (by kernel_rfl) ?_ | refine And.intro ⟨fun h => h, fun h => h⟩ ?_ | refine ⟨j, And.intro ⟨rfl, hlfj⟩ ?_⟩ | refine ⟨j, And.intro ⟨⟨fun h => h, fun h => h⟩, fun hg => ⟨rfl, hlfj⟩⟩ ?_⟩ | refine ⟨m, And.intro ⟨⟨fun h => h, fun h => h⟩, fun hg => ⟨rfl, hlfm⟩⟩ ?_⟩ | refine ⟨[DV.nl], And.intro hgj ?_⟩ | refine ⟨[DV.nl], And.intro ⟨fun h => h, fun _ => hgj⟩ ?_⟩ | refine ⟨[DV.nl], And.intro hgm ?_⟩ | refine ⟨[DV.nl], And.intro ⟨fun h => h, fun _ => hgm⟩ ?_⟩ | refine ⟨[.lst 1 (([] : List Int).map intE) false, .lst 1 (([] : List Int).map intE) false], _, ⟨.nl, .nl, trivial⟩, fun _ => e23, ?_⟩ | refine Exists.intro false ?_ | (refine And.intro ?_ ?_; focus (simp; done)) | fail)
                        all_goals (conv => whnf)
                        refine ⟨m + 1, hmlt, by simp only []; omega, ?_⟩
                        conv => whnf
                        exact ⟨⟨.refl, .refl, .refl, .refl, .refl, .refl, .refl, .refl, .refl, .refl, .refl, dle_int (by rw [hvs]; simp), dle_int (wrap_succ (by omega)), trivial⟩, ⟨.refl, .refl, .refl, .refl, .refl, trivial⟩, bnd9 rfl rfl rfl⟩
                      · rw [ej] at hgj
                        rw [em] at hgm
                        subst h0
                        repeat' ((conv => whnf); first | refine And.intro (fun h => h) ?_ | refine dcond_t (by assumption) ?_ | refine dcond_f (by assumption) ?_ | (refine dcond_intro ?_ ?_ <;> intro h) | exact .refl | refine And.intro (by kernel_rfl) ?_ | refine And.intro ⟨fun h => h, fun h => h⟩ ?_ | refine ⟨j, And.intro ⟨rfl, hlfj⟩ ?_⟩ | refine ⟨j, And.intro ⟨⟨fun h => h, fun h => h⟩, fun hg => ⟨rfl, hlfj⟩⟩ ?_⟩ | refine ⟨m, And.intro ⟨⟨fun h => h, fun h => h⟩, fun hg => ⟨rfl, hlfm⟩⟩ ?_⟩ | refine ⟨[DV.nl], And.intro hgj ?_⟩ | refine ⟨[DV.nl], And.intro ⟨fun h => h, fun _ => hgj⟩ ?_⟩ | refine ⟨[DV.lst 1 (fm.map intE) false], And.intro hgm ?_⟩ | refine ⟨[DV.lst 1 (fm.map intE) false], And.intro ⟨fun h => h, fun _ => hgm⟩ ?_⟩ | refine ⟨[.lst 1 (([] : List Int).map intE) false, .lst 1 ((fm : List Int).map intE) false], _, ⟨.nl, .refl, trivial⟩, fun _ => e23, ?_⟩ | refine Exists.intro false ?_ | (refine And.intro ?_ ?_; focus (simp; done)) | fail)
                        all_goals (conv => whnf)
                        refine ⟨m + 1, hmlt, by simp only []; omega, ?_⟩
                        conv => whnf
                        exact ⟨⟨.refl, .refl, .refl, .refl, .refl, .refl, .refl, .refl, .refl, .refl, .refl, dle_int (by rw [hvs]; simp), dle_int (wrap_succ (by omega)), trivial⟩, ⟨.refl, .refl, .refl, .refl, .refl, trivial⟩, bnd9 rfl rfl rfl⟩
                      · rw [ej] at hgj
                        rw [em] at hgm
                        subst h1
                        repeat' ((conv => whnf); first | refine And.intro (fun h => h) ?_ | refine dcond_t (by assumption) ?_ | refine dcond_f (by assumption) ?_ | (refine dcond_intro ?_ ?_ <;> intro h) | exact .refl | refine And.intro (by kernel_rfl) ?_ | refine And.intro ⟨fun h => h, fun h => h⟩ ?_ | refine ⟨j, And.intro ⟨rfl, hlfj⟩ ?_⟩ | refine ⟨j, And.intro ⟨⟨fun h => h, fun h => h⟩, fun hg => ⟨rfl, hlfj⟩⟩ ?_⟩ | refine ⟨m, And.intro ⟨⟨fun h => h, fun h => h⟩, fun hg => ⟨rfl, hlfm⟩⟩ ?_⟩ | refine ⟨[DV.lst 1 (fj.map intE) false], And.intro hgj ?_⟩ | refine ⟨[DV.lst 1 (fj.map intE) false], And.intro ⟨fun h => h, fun _ => hgj⟩ ?_⟩ | refine ⟨[DV.nl], And.intro hgm ?_⟩ | refine ⟨[DV.nl], And.intro ⟨fun h => h, fun _ => hgm⟩ ?_⟩ | refine ⟨[.lst 1 ((fj : List Int).map intE) false, .lst 1 (([] : List Int).map intE) false], _, ⟨.refl, .nl, trivial⟩, fun _ => e23, ?_⟩ | refine Exists.intro false ?_ | (refine And.intro ?_ ?_; focus (simp; done)) | fail)
                        all_goals (conv => whnf)
                        · have he := sameI_iff.1 ((Bool.and_eq_true ..).mp h).2
                          clear h
                          refine ⟨m + 1, hmlt, by simp only []; omega, ?_⟩
                          conv => whnf
                          exact ⟨⟨.refl, .refl, .refl, .refl, .refl, .refl, .refl, .refl, .refl, .refl, .refl, dle_int (by rw [hvs, if_pos ⟨h0, he.symm⟩, wrap_i64 (by omega) (by omega)]), dle_int (wrap_succ (by omega)), trivial⟩, ⟨.refl, .refl, .refl, .refl, .refl, trivial⟩, bnd9 rfl rfl rfl⟩
                        · have he : ¬ (fj ≠ [] ∧ [] = fj) := fun hh => by
                            have h5 : 0 < fj.length := List.length_pos_iff.2 h0
                            rw [hh.2, List.length_map, sameI_iff.2 rfl] at h
                            simp at h
                            exact h0 h
                          clear h
                          refine ⟨m + 1, hmlt, by simp only []; omega, ?_⟩
                          conv => whnf
                          exact ⟨⟨.refl, .refl, .refl, .refl, .refl, .refl, .refl, .refl, .refl, .refl, .refl, dle_int (by rw [hvs, if_neg he, Int.add_zero]), dle_int (wrap_succ (by omega)), trivial⟩, ⟨.refl, .refl, .refl, .refl, .refl, trivial⟩, bnd9 rfl rfl rfl⟩
                      · rw [ej] at hgj
                        rw [em] at hgm
                        repeat' ((conv => whnf); first | refine And.intro (fun h => h) ?_ | refine dcond_t (by assumption) ?_ | refine dcond_f (by assumption) ?_ | (refine dcond_intro ?_ ?_ <;> intro h) | exact .refl | refine And.intro (by kernel_rfl) ?_ | refine And.intro ⟨fun h => h, fun h => h⟩ ?_ | refine ⟨j, And.intro ⟨rfl, hlfj⟩ ?_⟩ | refine ⟨j, And.intro ⟨⟨fun h => h, fun h => h⟩, fun hg => ⟨rfl, hlfj⟩⟩ ?_⟩ | refine ⟨m, And.intro ⟨⟨fun h => h, fun h => h⟩, fun hg => ⟨rfl, hlfm⟩⟩ ?_⟩ | refine ⟨[DV.lst 1 (fj.map intE) false], And.intro hgj ?_⟩ | refine ⟨[DV.lst 1 (fj.map intE) false], And.intro ⟨fun h => h, fun _ => hgj⟩ ?_⟩ | refine ⟨[DV.lst 1 (fm.map intE) false], And.intro hgm ?_⟩ | refine ⟨[DV.lst 1 (fm.map intE) false], And.intro ⟨fun h => h, fun _ => hgm⟩ ?_⟩ | refine ⟨[.lst 1 ((fj : List Int).map intE) false, .lst 1 ((fm : List Int).map intE) false], _, ⟨.refl, .refl, trivial⟩, fun _ => e23, ?_⟩ | refine Exists.intro false ?_ | (refine And.intro ?_ ?_; focus (simp; done)) | fail)
                        all_goals (conv => whnf)
                        · have he := sameI_iff.1 ((Bool.and_eq_true ..).mp h).2
                          clear h
                          refine ⟨m + 1, hmlt, by simp only []; omega, ?_⟩
                          conv => whnf
                          exact ⟨⟨.refl, .refl, .refl, .refl, .refl, .refl, .refl, .refl, .refl, .refl, .refl, dle_int (by rw [hvs, if_pos ⟨h0, he.symm⟩, wrap_i64 (by omega) (by omega)]), dle_int (wrap_succ (by omega)), trivial⟩, ⟨.refl, .refl, .refl, .refl, .refl, trivial⟩, bnd9 rfl rfl rfl⟩
                        · have he : ¬ (fj ≠ [] ∧ fm = fj) := fun hh => by
                            have h5 : 0 < fj.length := List.length_pos_iff.2 h0
                            rw [hh.2, List.length_map, sameI_iff.2 rfl] at h
                            simp at h
                            exact h0 h
                          clear h
                          refine ⟨m + 1, hmlt, by simp only []; omega, ?_⟩
                          conv => whnf
                          exact ⟨⟨.refl, .refl, .refl, .refl, .refl, .refl, .refl, .refl, .refl, .refl, .refl, dle_int (by rw [hvs, if_neg he, Int.add_zero]), dle_int (wrap_succ (by omega)), trivial⟩, ⟨.refl, .refl, .refl, .refl, .refl, trivial⟩, bnd9 rfl rfl rfl⟩
                    · have hmn : m = v.mem.length := by
                        simp at h
                        omega
                      subst hmn
                      clear h
                      conv => whnf
                      refine And.intro (by decide) ?_
                      conv => whnf
                      refine dcond_intro ?_ ?_ <;> intro h
                      · have hfv := of_decide_eq_true h
                        clear h
                        rw [quo9 hn.1 hn.2] at hfv
                        obtain ⟨h0, hDj⟩ : fj ≠ [] ∧ Dec v P (accG G a t) fj := by
                          unfold voteC at hfv
                          have hne : fj ≠ [] := by
                            intro e
                            rw [if_pos e] at hfv
                            omega
                          rw [if_neg hne] at hfv
                          exact ⟨hne, hne, .inr (by omega)⟩
                        have ej : fnE fj = [.lst 1 (fj.map intE) false] := by
                          rcases fnE_cases fj with ⟨_, h⟩ | ⟨h, _⟩
                          · exact absurd h h0
                          · exact h
                        rw [ej] at hgj
                        have e23 := r23 dc fj (by simp only [maxLen]; omega)
                        repeat' ((conv => whnf); first | refine And.intro (fun h => h) ?_ | refine dcond_t (by assumption) ?_ | refine dcond_f (by assumption) ?_ | (refine dcond_intro ?_ ?_ <;> intro h) | exact .refl | refine And.intro (by kernel_rfl) ?_ | refine And.intro ⟨fun h => h, fun h => h⟩ ?_ | refine ⟨j, And.intro ⟨rfl, hlfj⟩ ?_⟩ | refine ⟨j, And.intro ⟨⟨fun h => h, fun h => h⟩, fun hg => ⟨rfl, hlfj⟩⟩ ?_⟩ | refine ⟨[DV.lst 1 (fj.map intE) false], And.intro hgj ?_⟩ | refine ⟨[DV.lst 1 (fj.map intE) false], And.intro ⟨fun h => h, fun _ => hgj⟩ ?_⟩ | refine .inl ⟨_, _, DleAll_refl _, e23, ?_⟩ | refine ⟨_, _, DleAll_refl _, fun _ => e23, ?_⟩ | refine ⟨_, _, DleAll_refl _, e23, ?_⟩ | refine Exists.intro false ?_ | (refine And.intro ?_ ?_; focus (simp; done)) | fail)
                        all_goals (conv => whnf)
                        · exfalso
                          have hne : dc ≠ [] := fun e => by
                            rw [e] at h
                            exact absurd h (by simp)
                          rw [dec_same hvw hI2 (hjd hne) hDj, sameI_iff.2 rfl] at h
                          simp at h
                        · clear h
                          refine ⟨(j + 1, fj), ⟨hjlt, fun _ => hDj, by simp only []; omega⟩, by simp only []; omega, ?_⟩
                          conv => whnf
                          exact ⟨⟨.refl, .refl, .refl, .refl, .refl, .refl, .refl, .refl, .refl, .refl, dle_int (wrap_succ (by omega)), trivial⟩, ⟨.refl, .refl, .refl, .refl, .refl, trivial⟩, bnd9 rfl rfl rfl⟩
                      · refine ⟨(j + 1, dc), ⟨hjlt, hjd, hjl⟩, by simp only []; omega, ?_⟩
                        conv => whnf
                        exact ⟨⟨.refl, .refl, .refl, .refl, .refl, .refl, .refl, .refl, .refl, .refl, dle_int (wrap_succ (by omega)), trivial⟩, ⟨.refl, .refl, .refl, .refl, .refl, trivial⟩, bnd9 rfl rfl rfl⟩
                · clear h
                  conv => whnf
                  refine ⟨(i + 1, { P with dec := dc }), ⟨hlt, (accG G a t), inv_dec hI2 dc, hjd, hF2, hjl⟩, by simp only []; omega, ?_⟩
                  conv => whnf
                  exact ⟨⟨.refl, .refl, .refl, .refl, .refl, .refl, .refl, .refl, .refl, dle_int (wrap_succ (by omega)), trivial⟩, ⟨.refl, .refl, .refl, .refl, .refl, trivial⟩, bnd9 rfl rfl rfl⟩
            · rename_i hV hr hq
              obtain ⟨hI2, hDD⟩ := hiv hV
              have hr9 : (accA s a).rank = rk v t := by simpa using hr
              rw [eV, if_pos hr9] at hI2 hDD
              have hch2 : choA ({ s with acc := s.acc.set a V1 } : PS) t ≠ [] := hch
              have hq2 : ((v.mem.length / 2 + 1 : Nat) : Int) ≤ ({ s with acc := s.acc.set a V1 } : PS).took.getD t 0 := by
                have h9 := of_decide_eq_true hq
                rw [quo2 hn.2] at h9
                exact h9
              have hD9 := took_dec hI2 hkt hch2 hq2
              exfalso
              have hne : s.dec ≠ [] := fun e => by
                rw [e] at h
                exact absurd h (by simp)
              have e9 := dec_same hvw hI2 (hDD _ (hD hne)) hD9
              rw [show s.dec = choA s t from e9, sameI_iff.2 rfl] at h
              simp at h
            · rename_i hV hr hq
              obtain ⟨hI2, hDD⟩ := hiv hV
              have hr9 : (accA s a).rank = rk v t := by simpa using hr
              rw [eV, if_pos hr9] at hI2 hDD
              have hch2 : choA ({ s with acc := s.acc.set a V1 } : PS) t ≠ [] := hch
              have hq2 : ((v.mem.length / 2 + 1 : Nat) : Int) ≤ ({ s with acc := s.acc.set a V1 } : PS).took.getD t 0 := by
                have h9 := of_decide_eq_true hq
                rw [quo2 hn.2] at h9
                exact h9
              have hD9 := took_dec hI2 hkt hch2 hq2
              clear h
              have hN : InvN v ({ ({ s with acc := s.acc.set a V1 } : PS) with dec := choA s t } : PS) (accG G a t) := ⟨inv_dec hI2 _, fun _ => hD9, hF1, hcl32⟩
              obtain ⟨P, hP⟩ : ∃ P : PS, P = ({ ({ s with acc := s.acc.set a V1 } : PS) with dec := choA s t } : PS) := ⟨_, rfl⟩
              rw [← hP] at hN
              obtain ⟨hI2, hD2, hF2, hd2⟩ := hN
              have hFl : ∀ j, (fastA P j).length ≤ 1 := fun j => fast_one hF2 j
              refine ⟨Nat × List Int, fun y => ⟨[(1, .lst 5 (l.map stE) false), (2, .lp 0 0), (5, .lst 1 (cuts.map cutE) false), (6, i64 v.mem.length), (7, .own 1), (8, .own 2), (10, .lp 3 0), (11, .lp 4 0), (12, .lst 1 (y.2.map intE) false), (13, i64 i), (29, i64 y.1)], [.cells 44 (viewE v), .row 28 3 (P.acc.map accE), .row 26 1 (P.fast.map fnE), .cells 63 (triE P.rep P.cho), .cells 65 (P.took.map i64)]⟩, fun y => y.1 ≤ v.mem.length ∧ (y.2 ≠ [] → Dec v P (accG G a t) y.2) ∧ y.2.length ≤ 32, fun y => v.mem.length - y.1, [], ⟨(0, P.dec), ⟨Nat.zero_le _, hD2, hd2⟩, ?_⟩, ?_⟩
              · subst hP
                conv => whnf
                refine ⟨⟨.refl, .refl, .refl, .refl, .refl, .refl, .refl, .refl, .refl, .refl, .refl, trivial⟩, ⟨.refl, ?_, ?_, ?_, ?_, trivial⟩, bnd9 rfl rfl rfl⟩
                · refine ole_row (show (s.acc.map accE).set a (accE V1) = _ from ?_)
                  rw [List.map_set]
                · exact .refl
                · exact .refl
                · exact .refl
              · clear hP
                intro ⟨j, dc⟩ ⟨hj, hjd, hjl⟩
                simp only at hj hjd hjl
                conv => whnf
                refine dcond_intro ?_ ?_ <;> intro h
                · have hjlt : j < v.mem.length := by simpa using h
                  clear h
                  have hlfj : j < (P.fast.map fnE).length := by rw [List.length_map, hI2.lfast]; exact hjlt
                  have hgj := fast_get hI2 hjlt
                  obtain ⟨fj, hfj⟩ : ∃ fj, fj = fastA P j := ⟨_, rfl⟩
                  have hfl : fj.length ≤ 1 := by rw [hfj]; exact hFl j
                  rw [← hfj] at hgj
                  conv => whnf
                  refine ⟨Nat, fun m => ⟨[(1, .lst 5 (l.map stE) false), (2, .lp 0 0), (5, .lst 1 (cuts.map cutE) false), (6, i64 v.mem.length), (7, .own 1), (8, .own 2), (10, .lp 3 0), (11, .lp 4 0), (12, .lst 1 (dc.map intE) false), (13, i64 i), (29, i64 j), (30, i64 (voteC P fj m)), (31, i64 m)], [.cells 44 (viewE v), .row 28 3 (P.acc.map accE), .row 26 1 (P.fast.map fnE), .cells 63 (triE P.rep P.cho), .cells 65 (P.took.map i64)]⟩, fun m => m ≤ v.mem.length, fun m => v.mem.length - m, [], ⟨0, Nat.zero_le _, ?_⟩, ?_⟩
                  · conv => whnf
                    exact ⟨⟨.refl, .refl, .refl, .refl, .refl, .refl, .refl, .refl, .refl, .refl, .refl, dle_int (voteC_zero _ _).symm, .refl, trivial⟩, ⟨.refl, .refl, .refl, .refl, .refl, trivial⟩, bnd9 rfl rfl rfl⟩
                  · intro m hm
                    conv => whnf
                    refine dcond_intro ?_ ?_ <;> intro h
                    · have hmlt : m < v.mem.length := by simpa using h
                      clear h
                      have hlfm : m < (P.fast.map fnE).length := by rw [List.length_map, hI2.lfast]; exact hmlt
                      have hgm := fast_get hI2 hmlt
                      have hvs := voteC_succ P fj m
                      have hvl := voteC_le P fj m
                      obtain ⟨fm, hfm⟩ : ∃ fm, fm = fastA P m := ⟨_, rfl⟩
                      rw [← hfm] at hgm hvs
                      have e23 := r23 fj fm (by simp only [maxLen]; omega)
                      clear hfj hfm
                      rcases fnE_cases fj with ⟨ej, h0⟩ | ⟨ej, h0⟩ <;> rcases fnE_cases fm with ⟨em, h1⟩ | ⟨em, h1⟩
                      · rw [ej] at hgj
                        rw [em] at hgm
                        subst h0
                        subst h1
                        repeat' ((conv => whnf); first | refine And.intro (fun h => h) ?_ | refine dcond_t (by assumption) ?_ | refine dcond_f (by assumption) ?_ | (refine dcond_intro ?_ ?_ <;> intro h) | exact .refl | refine And.intro (by kernel_rfl) ?_ | refine And.intro ⟨fun h => h, fun h => h⟩ ?_ | refine ⟨j, And.intro ⟨rfl, hlfj⟩ ?_⟩ | refine ⟨j, And.intro ⟨⟨fun h => h, fun h => h⟩, fun hg => ⟨rfl, hlfj⟩⟩ ?_⟩ | refine ⟨m, And.intro ⟨⟨fun h => h, fun h => h⟩, fun hg => ⟨rfl, hlfm⟩⟩ ?_⟩ | refine ⟨[DV.nl], And.intro hgj ?_⟩ | refine ⟨[DV.nl], And.intro ⟨fun h => h, fun _ => hgj⟩ ?_⟩ | refine ⟨[DV.nl], And.intro hgm ?_⟩ | refine ⟨[DV.nl], And.intro ⟨fun h => h, fun _ => hgm⟩ ?_⟩ | refine ⟨[.lst 1 (([] : List Int).map intE) false, .lst 1 (([] : List Int).map intE) false], _, ⟨.nl, .nl, trivial⟩, fun _ => e23, ?_⟩ | refine Exists.intro false ?_ | (refine And.intro ?_ ?_; focus (simp; done)) | fail)
                        all_goals (conv => whnf)
                        refine ⟨m + 1, hmlt, by simp only []; omega, ?_⟩
                        conv => whnf
                        exact ⟨⟨.refl, .refl, .refl, .refl, .refl, .refl, .refl, .refl, .refl, .refl, .refl, dle_int (by rw [hvs]; simp), dle_int (wrap_succ (by omega)), trivial⟩, ⟨.refl, .refl, .refl, .refl, .refl, trivial⟩, bnd9 rfl rfl rfl⟩
                      · rw [ej] at hgj
                        rw [em] at hgm
                        subst h0
                        repeat' ((conv => whnf); first | refine And.intro (fun h => h) ?_ | refine dcond_t (by assumption) ?_ | refine dcond_f (by assumption) ?_ | (refine dcond_intro ?_ ?_ <;> intro h) | exact .refl | refine And.intro (by kernel_rfl) ?_ | refine And.intro ⟨fun h => h, fun h => h⟩ ?_ | refine ⟨j, And.intro ⟨rfl, hlfj⟩ ?_⟩ | refine ⟨j, And.intro ⟨⟨fun h => h, fun h => h⟩, fun hg => ⟨rfl, hlfj⟩⟩ ?_⟩ | refine ⟨m, And.intro ⟨⟨fun h => h, fun h => h⟩, fun hg => ⟨rfl, hlfm⟩⟩ ?_⟩ | refine ⟨[DV.nl], And.intro hgj ?_⟩ | refine ⟨[DV.nl], And.intro ⟨fun h => h, fun _ => hgj⟩ ?_⟩ | refine ⟨[DV.lst 1 (fm.map intE) false], And.intro hgm ?_⟩ | refine ⟨[DV.lst 1 (fm.map intE) false], And.intro ⟨fun h => h, fun _ => hgm⟩ ?_⟩ | refine ⟨[.lst 1 (([] : List Int).map intE) false, .lst 1 ((fm : List Int).map intE) false], _, ⟨.nl, .refl, trivial⟩, fun _ => e23, ?_⟩ | refine Exists.intro false ?_ | (refine And.intro ?_ ?_; focus (simp; done)) | fail)
                        all_goals (conv => whnf)
                        refine ⟨m + 1, hmlt, by simp only []; omega, ?_⟩
                        conv => whnf
                        exact ⟨⟨.refl, .refl, .refl, .refl, .refl, .refl, .refl, .refl, .refl, .refl, .refl, dle_int (by rw [hvs]; simp), dle_int (wrap_succ (by omega)), trivial⟩, ⟨.refl, .refl, .refl, .refl, .refl, trivial⟩, bnd9 rfl rfl rfl⟩
                      · rw [ej] at hgj
                        rw [em] at hgm
                        subst h1
                        repeat' ((conv => whnf); first | refine And.intro (fun h => h) ?_ | refine dcond_t (by assumption) ?_ | refine dcond_f (by assumption) ?_ | (refine dcond_intro ?_ ?_ <;> intro h) | exact .refl | refine And.intro (by kernel_rfl) ?_ | refine And.intro ⟨fun h => h, fun h => h⟩ ?_ | refine ⟨j, And.intro ⟨rfl, hlfj⟩ ?_⟩ | refine ⟨j, And.intro ⟨⟨fun h => h, fun h => h⟩, fun hg => ⟨rfl, hlfj⟩⟩ ?_⟩ | refine ⟨m, And.intro ⟨⟨fun h => h, fun h => h⟩, fun hg => ⟨rfl, hlfm⟩⟩ ?_⟩ | refine ⟨[DV.lst 1 (fj.map intE) false], And.intro hgj ?_⟩ | refine ⟨[DV.lst 1 (fj.map intE) false], And.intro ⟨fun h => h, fun _ => hgj⟩ ?_⟩ | refine ⟨[DV.nl], And.intro hgm ?_⟩ | refine ⟨[DV.nl], And.intro ⟨fun h => h, fun _ => hgm⟩ ?_⟩ | refine ⟨[.lst 1 ((fj : List Int).map intE) false, .lst 1 (([] : List Int).map intE) false], _, ⟨.refl, .nl, trivial⟩, fun _ => e23, ?_⟩ | refine Exists.intro false ?_ | (refine And.intro ?_ ?_; focus (simp; done)) | fail)
                        all_goals (conv => whnf)
                        · have he := sameI_iff.1 ((Bool.and_eq_true ..).mp h).2
                          clear h
                          refine ⟨m + 1, hmlt, by simp only []; omega, ?_⟩
                          conv => whnf
                          exact ⟨⟨.refl, .refl, .refl, .refl, .refl, .refl, .refl, .refl, .refl, .refl, .refl, dle_int (by rw [hvs, if_pos ⟨h0, he.symm⟩, wrap_i64 (by omega) (by omega)]), dle_int (wrap_succ (by omega)), trivial⟩, ⟨.refl, .refl, .refl, .refl, .refl, trivial⟩, bnd9 rfl rfl rfl⟩
                        · have he : ¬ (fj ≠ [] ∧ [] = fj) := fun hh => by
                            have h5 : 0 < fj.length := List.length_pos_iff.2 h0
                            rw [hh.2, List.length_map, sameI_iff.2 rfl] at h
                            simp at h
                            exact h0 h
                          clear h
                          refine ⟨m + 1, hmlt, by simp only []; omega, ?_⟩
                          conv => whnf
                          exact ⟨⟨.refl, .refl, .refl, .refl, .refl, .refl, .refl, .refl, .refl, .refl, .refl, dle_int (by rw [hvs, if_neg he, Int.add_zero]), dle_int (wrap_succ (by omega)), trivial⟩, ⟨.refl, .refl, .refl, .refl, .refl, trivial⟩, bnd9 rfl rfl rfl⟩
                      · rw [ej] at hgj
                        rw [em] at hgm
                        repeat' ((conv => whnf); first | refine And.intro (fun h => h) ?_ | refine dcond_t (by assumption) ?_ | refine dcond_f (by assumption) ?_ | (refine dcond_intro ?_ ?_ <;> intro h) | exact .refl | refine And.intro (by kernel_rfl) ?_ | refine And.intro ⟨fun h => h, fun h => h⟩ ?_ | refine ⟨j, And.intro ⟨rfl, hlfj⟩ ?_⟩ | refine ⟨j, And.intro ⟨⟨fun h => h, fun h => h⟩, fun hg => ⟨rfl, hlfj⟩⟩ ?_⟩ | refine ⟨m, And.intro ⟨⟨fun h => h, fun h => h⟩, fun hg => ⟨rfl, hlfm⟩⟩ ?_⟩ | refine ⟨[DV.lst 1 (fj.map intE) false], And.intro hgj ?_⟩ | refine ⟨[DV.lst 1 (fj.map intE) false], And.intro ⟨fun h => h, fun _ => hgj⟩ ?_⟩ | refine ⟨[DV.lst 1 (fm.map intE) false], And.intro hgm ?_⟩ | refine ⟨[DV.lst 1 (fm.map intE) false], And.intro ⟨fun h => h, fun _ => hgm⟩ ?_⟩ | refine ⟨[.lst 1 ((fj : List Int).map intE) false, .lst 1 ((fm : List Int).map intE) false], _, ⟨.refl, .refl, trivial⟩, fun _ => e23, ?_⟩ | refine Exists.intro false ?_ | (refine And.intro ?_ ?_; focus (simp; done)) | fail)
                        all_goals (conv => whnf)
                        · have he := sameI_iff.1 ((Bool.and_eq_true ..).mp h).2
                          clear h
                          refine ⟨m + 1, hmlt, by simp only []; omega, ?_⟩
                          conv => whnf
                          exact ⟨⟨.refl, .refl, .refl, .refl, .refl, .refl, .refl, .refl, .refl, .refl, .refl, dle_int (by rw [hvs, if_pos ⟨h0, he.symm⟩, wrap_i64 (by omega) (by omega)]), dle_int (wrap_succ (by omega)), trivial⟩, ⟨.refl, .refl, .refl, .refl, .refl, trivial⟩, bnd9 rfl rfl rfl⟩
                        · have he : ¬ (fj ≠ [] ∧ fm = fj) := fun hh => by
                            have h5 : 0 < fj.length := List.length_pos_iff.2 h0
                            rw [hh.2, List.length_map, sameI_iff.2 rfl] at h
                            simp at h
                            exact h0 h
                          clear h
                          refine ⟨m + 1, hmlt, by simp only []; omega, ?_⟩
                          conv => whnf
                          exact ⟨⟨.refl, .refl, .refl, .refl, .refl, .refl, .refl, .refl, .refl, .refl, .refl, dle_int (by rw [hvs, if_neg he, Int.add_zero]), dle_int (wrap_succ (by omega)), trivial⟩, ⟨.refl, .refl, .refl, .refl, .refl, trivial⟩, bnd9 rfl rfl rfl⟩
                    · have hmn : m = v.mem.length := by
                        simp at h
                        omega
                      subst hmn
                      clear h
                      conv => whnf
                      refine And.intro (by decide) ?_
                      conv => whnf
                      refine dcond_intro ?_ ?_ <;> intro h
                      · have hfv := of_decide_eq_true h
                        clear h
                        rw [quo9 hn.1 hn.2] at hfv
                        obtain ⟨h0, hDj⟩ : fj ≠ [] ∧ Dec v P (accG G a t) fj := by
                          unfold voteC at hfv
                          have hne : fj ≠ [] := by
                            intro e
                            rw [if_pos e] at hfv
                            omega
                          rw [if_neg hne] at hfv
                          exact ⟨hne, hne, .inr (by omega)⟩
                        have ej : fnE fj = [.lst 1 (fj.map intE) false] := by
                          rcases fnE_cases fj with ⟨_, h⟩ | ⟨h, _⟩
                          · exact absurd h h0
                          · exact h
                        rw [ej] at hgj
                        have e23 := r23 dc fj (by simp only [maxLen]; omega)
                        repeat' ((conv => whnf); first | refine And.intro (fun h => h) ?_ | refine dcond_t (by assumption) ?_ | refine dcond_f (by assumption) ?_ | (refine dcond_intro ?_ ?_ <;> intro h) | exact .refl | refine And.intro (by kernel_rfl) ?_ | refine And.intro ⟨fun h => h, fun h => h⟩ ?_ | refine ⟨j, And.intro ⟨rfl, hlfj⟩ ?_⟩ | refine ⟨j, And.intro ⟨⟨fun h => h, fun h => h⟩, fun hg => ⟨rfl, hlfj⟩⟩ ?_⟩ | refine ⟨[DV.lst 1 (fj.map intE) false], And.intro hgj ?_⟩ | refine ⟨[DV.lst 1 (fj.map intE) false], And.intro ⟨fun h => h, fun _ => hgj⟩ ?_⟩ | refine .inl ⟨_, _, DleAll_refl _, e23, ?_⟩ | refine ⟨_, _, DleAll_refl _, fun _ => e23, ?_⟩ | refine ⟨_, _, DleAll_refl _, e23, ?_⟩ | refine Exists.intro false ?_ | (refine And.intro ?_ ?_; focus (simp; done)) | fail)
                        all_goals (conv => whnf)
                        · exfalso
                          have hne : dc ≠ [] := fun e => by
                            rw [e] at h
                            exact absurd h (by simp)
                          rw [dec_same hvw hI2 (hjd hne) hDj, sameI_iff.2 rfl] at h
                          simp at h
                        · clear h
                          refine ⟨(j + 1, fj), ⟨hjlt, fun _ => hDj, by simp only []; omega⟩, by simp only []; omega, ?_⟩
                          conv => whnf
                          exact ⟨⟨.refl, .refl, .refl, .refl, .refl, .refl, .refl, .refl, .refl, .refl, dle_int (wrap_succ (by omega)), trivial⟩, ⟨.refl, .refl, .refl, .refl, .refl, trivial⟩, bnd9 rfl rfl rfl⟩
                      · refine ⟨(j + 1, dc), ⟨hjlt, hjd, hjl⟩, by simp only []; omega, ?_⟩
                        conv => whnf
                        exact ⟨⟨.refl, .refl, .refl, .refl, .refl, .refl, .refl, .refl, .refl, .refl, dle_int (wrap_succ (by omega)), trivial⟩, ⟨.refl, .refl, .refl, .refl, .refl, trivial⟩, bnd9 rfl rfl rfl⟩
                · clear h
                  conv => whnf
                  refine ⟨(i + 1, { P with dec := dc }), ⟨hlt, (accG G a t), inv_dec hI2 dc, hjd, hF2, hjl⟩, by simp only []; omega, ?_⟩
                  conv => whnf
                  exact ⟨⟨.refl, .refl, .refl, .refl, .refl, .refl, .refl, .refl, .refl, dle_int (wrap_succ (by omega)), trivial⟩, ⟨.refl, .refl, .refl, .refl, .refl, trivial⟩, bnd9 rfl rfl rfl⟩
            · rename_i hV hr
              obtain ⟨hI2, hDD⟩ := hiv hV
              have hr9 : (accA s a).rank = rk v t := by simpa using hr
              rw [eV, if_pos hr9] at hI2 hDD
              clear h
              have hN : InvN v ({ s with acc := s.acc.set a V1 } : PS) (accG G a t) := ⟨hI2, fun h => hDD _ (hD h), hF1, hd32⟩
              obtain ⟨P, hP⟩ : ∃ P : PS, P = ({ s with acc := s.acc.set a V1 } : PS) := ⟨_, rfl⟩
              rw [← hP] at hN
              obtain ⟨hI2, hD2, hF2, hd2⟩ := hN
              have hFl : ∀ j, (fastA P j).length ≤ 1 := fun j => fast_one hF2 j
              refine ⟨Nat × List Int, fun y => ⟨[(1, .lst 5 (l.map stE) false), (2, .lp 0 0), (5, .lst 1 (cuts.map cutE) false), (6, i64 v.mem.length), (7, .own 1), (8, .own 2), (10, .lp 3 0), (11, .lp 4 0), (12, .lst 1 (y.2.map intE) false), (13, i64 i), (29, i64 y.1)], [.cells 44 (viewE v), .row 28 3 (P.acc.map accE), .row 26 1 (P.fast.map fnE), .cells 63 (triE P.rep P.cho), .cells 65 (P.took.map i64)]⟩, fun y => y.1 ≤ v.mem.length ∧ (y.2 ≠ [] → Dec v P (accG G a t) y.2) ∧ y.2.length ≤ 32, fun y => v.mem.length - y.1, [], ⟨(0, P.dec), ⟨Nat.zero_le _, hD2, hd2⟩, ?_⟩, ?_⟩
              · subst hP
                conv => whnf
                refine ⟨⟨.refl, .refl, .refl, .refl, .refl, .refl, .refl, .refl, .refl, .refl, .refl, trivial⟩, ⟨.refl, ?_, ?_, ?_, ?_, trivial⟩, bnd9 rfl rfl rfl⟩
                · refine ole_row (show (s.acc.map accE).set a (accE V1) = _ from ?_)
                  rw [List.map_set]
                · exact .refl
                · exact .refl
                · exact .refl
              · clear hP
                intro ⟨j, dc⟩ ⟨hj, hjd, hjl⟩
                simp only at hj hjd hjl
                conv => whnf
                refine dcond_intro ?_ ?_ <;> intro h
                · have hjlt : j < v.mem.length := by simpa using h
                  clear h
                  have hlfj : j < (P.fast.map fnE).length := by rw [List.length_map, hI2.lfast]; exact hjlt
                  have hgj := fast_get hI2 hjlt
                  obtain ⟨fj, hfj⟩ : ∃ fj, fj = fastA P j := ⟨_, rfl⟩
                  have hfl : fj.length ≤ 1 := by rw [hfj]; exact hFl j
                  rw [← hfj] at hgj
                  conv => whnf
                  refine ⟨Nat, fun m => ⟨[(1, .lst 5 (l.map stE) false), (2, .lp 0 0), (5, .lst 1 (cuts.map cutE) false), (6, i64 v.mem.length), (7, .own 1), (8, .own 2), (10, .lp 3 0), (11, .lp 4 0), (12, .lst 1 (dc.map intE) false), (13, i64 i), (29, i64 j), (30, i64 (voteC P fj m)), (31, i64 m)], [.cells 44 (viewE v), .row 28 3 (P.acc.map accE), .row 26 1 (P.fast.map fnE), .cells 63 (triE P.rep P.cho), .cells 65 (P.took.map i64)]⟩, fun m => m ≤ v.mem.length, fun m => v.mem.length - m, [], ⟨0, Nat.zero_le _, ?_⟩, ?_⟩
                  · conv => whnf
                    exact ⟨⟨.refl, .refl, .refl, .refl, .refl, .refl, .refl, .refl, .refl, .refl, .refl, dle_int (voteC_zero _ _).symm, .refl, trivial⟩, ⟨.refl, .refl, .refl, .refl, .refl, trivial⟩, bnd9 rfl rfl rfl⟩
                  · intro m hm
                    conv => whnf
                    refine dcond_intro ?_ ?_ <;> intro h
                    · have hmlt : m < v.mem.length := by simpa using h
                      clear h
                      have hlfm : m < (P.fast.map fnE).length := by rw [List.length_map, hI2.lfast]; exact hmlt
                      have hgm := fast_get hI2 hmlt
                      have hvs := voteC_succ P fj m
                      have hvl := voteC_le P fj m
                      obtain ⟨fm, hfm⟩ : ∃ fm, fm = fastA P m := ⟨_, rfl⟩
                      rw [← hfm] at hgm hvs
                      have e23 := r23 fj fm (by simp only [maxLen]; omega)
                      clear hfj hfm
                      rcases fnE_cases fj with ⟨ej, h0⟩ | ⟨ej, h0⟩ <;> rcases fnE_cases fm with ⟨em, h1⟩ | ⟨em, h1⟩
                      · rw [ej] at hgj
                        rw [em] at hgm
                        subst h0
                        subst h1
                        repeat' ((conv => whnf); first | refine And.intro (fun h => h) ?_ | refine dcond_t (by assumption) ?_ | refine dcond_f (by assumption) ?_ | (refine dcond_intro ?_ ?_ <;> intro h) | exact .refl | refine And.intro (by kernel_rfl) ?_ | refine And.intro ⟨fun h => h, fun h => h⟩ ?_ | refine ⟨j, And.intro ⟨rfl, hlfj⟩ ?_⟩ | refine ⟨j, And.intro ⟨⟨fun h => h, fun h => h⟩, fun hg => ⟨rfl, hlfj⟩⟩ ?_⟩ | refine ⟨m, And.intro ⟨⟨fun h => h, fun h => h⟩, fun hg => ⟨rfl, hlfm⟩⟩ ?_⟩ | refine ⟨[DV.nl], And.intro hgj ?_⟩ | refine ⟨[DV.nl], And.intro ⟨fun h => h, fun _ => hgj⟩ ?_⟩ | refine ⟨[DV.nl], And.intro hgm ?_⟩ | refine ⟨[DV.nl], And.intro ⟨fun h => h, fun _ => hgm⟩ ?_⟩ | refine ⟨[.lst 1 (([] : List Int).map intE) false, .lst 1 (([] : List Int).map intE) false], _, ⟨.nl, .nl, trivial⟩, fun _ => e23, ?_⟩ | refine Exists.intro false ?_ | (refine And.intro ?_ ?_; focus (simp; done)) | fail)
                        all_goals (conv => whnf)
                        refine ⟨m + 1, hmlt, by simp only []; omega, ?_⟩
                        conv => whnf
                        exact ⟨⟨.refl, .refl, .refl, .refl, .refl, .refl, .refl, .refl, .refl, .refl, .refl, dle_int (by rw [hvs]; simp), dle_int (wrap_succ (by omega)), trivial⟩, ⟨.refl, .refl, .refl, .refl, .refl, trivial⟩, bnd9 rfl rfl rfl⟩
                      · rw [ej] at hgj
                        rw [em] at hgm
                        subst h0
                        repeat' ((conv => whnf); first | refine And.intro (fun h => h) ?_ | refine dcond_t (by assumption) ?_ | refine dcond_f (by assumption) ?_ | (refine dcond_intro ?_ ?_ <;> intro h) | exact .refl | refine And.intro (by kernel_rfl) ?_ | refine And.intro ⟨fun h => h, fun h => h⟩ ?_ | refine ⟨j, And.intro ⟨rfl, hlfj⟩ ?_⟩ | refine ⟨j, And.intro ⟨⟨fun h => h, fun h => h⟩, fun hg => ⟨rfl, hlfj⟩⟩ ?_⟩ | refine ⟨m, And.intro ⟨⟨fun h => h, fun h => h⟩, fun hg => ⟨rfl, hlfm⟩⟩ ?_⟩ | refine ⟨[DV.nl], And.intro hgj ?_⟩ | refine ⟨[DV.nl], And.intro ⟨fun h => h, fun _ => hgj⟩ ?_⟩ | refine ⟨[DV.lst 1 (fm.map intE) false], And.intro hgm ?_⟩ | refine ⟨[DV.lst 1 (fm.map intE) false], And.intro ⟨fun h => h, fun _ => hgm⟩ ?_⟩ | refine ⟨[.lst 1 (([] : List Int).map intE) false, .lst 1 ((fm : List Int).map intE) false], _, ⟨.nl, .refl, trivial⟩, fun _ => e23, ?_⟩ | refine Exists.intro false ?_ | (refine And.intro ?_ ?_; focus (simp; done)) | fail)
                        all_goals (conv => whnf)
                        refine ⟨m + 1, hmlt, by simp only []; omega, ?_⟩
                        conv => whnf
                        exact ⟨⟨.refl, .refl, .refl, .refl, .refl, .refl, .refl, .refl, .refl, .refl, .refl, dle_int (by rw [hvs]; simp), dle_int (wrap_succ (by omega)), trivial⟩, ⟨.refl, .refl, .refl, .refl, .refl, trivial⟩, bnd9 rfl rfl rfl⟩
                      · rw [ej] at hgj
                        rw [em] at hgm
                        subst h1
                        repeat' ((conv => whnf); first | refine And.intro (fun h => h) ?_ | refine dcond_t (by assumption) ?_ | refine dcond_f (by assumption) ?_ | (refine dcond_intro ?_ ?_ <;> intro h) | exact .refl | refine And.intro (by kernel_rfl) ?_ | refine And.intro ⟨fun h => h, fun h => h⟩ ?_ | refine ⟨j, And.intro ⟨rfl, hlfj⟩ ?_⟩ | refine ⟨j, And.intro ⟨⟨fun h => h, fun h => h⟩, fun hg => ⟨rfl, hlfj⟩⟩ ?_⟩ | refine ⟨m, And.intro ⟨⟨fun h => h, fun h => h⟩, fun hg => ⟨rfl, hlfm⟩⟩ ?_⟩ | refine ⟨[DV.lst 1 (fj.map intE) false], And.intro hgj ?_⟩ | refine ⟨[DV.lst 1 (fj.map intE) false], And.intro ⟨fun h => h, fun _ => hgj⟩ ?_⟩ | refine ⟨[DV.nl], And.intro hgm ?_⟩ | refine ⟨[DV.nl], And.intro ⟨fun h => h, fun _ => hgm⟩ ?_⟩ | refine ⟨[.lst 1 ((fj : List Int).map intE) false, .lst 1 (([] : List Int).map intE) false], _, ⟨.refl, .nl, trivial⟩, fun _ => e23, ?_⟩ | refine Exists.intro false ?_ | (refine And.intro ?_ ?_; focus (simp; done)) | fail)
                        all_goals (conv => whnf)
                        · have he := sameI_iff.1 ((Bool.and_eq_true ..).mp h).2
                          clear h
                          refine ⟨m + 1, hmlt, by simp only []; omega, ?_⟩
                          conv => whnf
                          exact ⟨⟨.refl, .refl, .refl, .refl, .refl, .refl, .refl, .refl, .refl, .refl, .refl, dle_int (by rw [hvs, if_pos ⟨h0, he.symm⟩, wrap_i64 (by omega) (by omega)]), dle_int (wrap_succ (by omega)), trivial⟩, ⟨.refl, .refl, .refl, .refl, .refl, trivial⟩, bnd9 rfl rfl rfl⟩
                        · have he : ¬ (fj ≠ [] ∧ [] = fj) := fun hh => by
                            have h5 : 0 < fj.length := List.length_pos_iff.2 h0
                            rw [hh.2, List.length_map, sameI_iff.2 rfl] at h
                            simp at h
                            exact h0 h
                          clear h
                          refine ⟨m + 1, hmlt, by simp only []; omega, ?_⟩
                          conv => whnf
                          exact ⟨⟨.refl, .refl, .refl, .refl, .refl, .refl, .refl, .refl, .refl, .refl, .refl, dle_int (by rw [hvs, if_neg he, Int.add_zero]), dle_int (wrap_succ (by omega)), trivial⟩, ⟨.refl, .refl, .refl, .refl, .refl, trivial⟩, bnd9 rfl rfl rfl⟩
                      · rw [ej] at hgj
                        rw [em] at hgm
                        repeat' ((conv => whnf); first | refine And.intro (fun h => h) ?_ | refine dcond_t (by assumption) ?_ | refine dcond_f (by assumption) ?_ | (refine dcond_intro ?_ ?_ <;> intro h) | exact .refl | refine And.intro (by kernel_rfl) ?_ | refine And.intro ⟨fun h => h, fun h => h⟩ ?_ | refine ⟨j, And.intro ⟨rfl, hlfj⟩ ?_⟩ | refine ⟨j, And.intro ⟨⟨fun h => h, fun h => h⟩, fun hg => ⟨rfl, hlfj⟩⟩ ?_⟩ | refine ⟨m, And.intro ⟨⟨fun h => h, fun h => h⟩, fun hg => ⟨rfl, hlfm⟩⟩ ?_⟩ | refine ⟨[DV.lst 1 (fj.map intE) false], And.intro hgj ?_⟩ | refine ⟨[DV.lst 1 (fj.map intE) false], And.intro ⟨fun h => h, fun _ => hgj⟩ ?_⟩ | refine ⟨[DV.lst 1 (fm.map intE) false], And.intro hgm ?_⟩ | refine ⟨[DV.lst 1 (fm.map intE) false], And.intro ⟨fun h => h, fun _ => hgm⟩ ?_⟩ | refine ⟨[.lst 1 ((fj : List Int).map intE) false, .lst 1 ((fm : List Int).map intE) false], _, ⟨.refl, .refl, trivial⟩, fun _ => e23, ?_⟩ | refine Exists.intro false ?_ | (refine And.intro ?_ ?_; focus (simp; done)) | fail)
                        all_goals (conv => whnf)
                        · have he := sameI_iff.1 ((Bool.and_eq_true ..).mp h).2
                          clear h
                          refine ⟨m + 1, hmlt, by simp only []; omega, ?_⟩
                          conv => whnf
                          exact ⟨⟨.refl, .refl, .refl, .refl, .refl, .refl, .refl, .refl, .refl, .refl, .refl, dle_int (by rw [hvs, if_pos ⟨h0, he.symm⟩, wrap_i64 (by omega) (by omega)]), dle_int (wrap_succ (by omega)), trivial⟩, ⟨.refl, .refl, .refl, .refl, .refl, trivial⟩, bnd9 rfl rfl rfl⟩
                        · have he : ¬ (fj ≠ [] ∧ fm = fj) := fun hh => by
                            have h5 : 0 < fj.length := List.length_pos_iff.2 h0
                            rw [hh.2, List.length_map, sameI_iff.2 rfl] at h
                            simp at h
                            exact h0 h
                          clear h
                          refine ⟨m + 1, hmlt, by simp only []; omega, ?_⟩
                          conv => whnf
                          exact ⟨⟨.refl, .refl, .refl, .refl, .refl, .refl, .refl, .refl, .refl, .refl, .refl, dle_int (by rw [hvs, if_neg he, Int.add_zero]), dle_int (wrap_succ (by omega)), trivial⟩, ⟨.refl, .refl, .refl, .refl, .refl, trivial⟩, bnd9 rfl rfl rfl⟩
                    · have hmn : m = v.mem.length := by
                        simp at h
                        omega
                      subst hmn
                      clear h
                      conv => whnf
                      refine And.intro (by decide) ?_
                      conv => whnf
                      refine dcond_intro ?_ ?_ <;> intro h
                      · have hfv := of_decide_eq_true h
                        clear h
                        rw [quo9 hn.1 hn.2] at hfv
                        obtain ⟨h0, hDj⟩ : fj ≠ [] ∧ Dec v P (accG G a t) fj := by
                          unfold voteC at hfv
                          have hne : fj ≠ [] := by
                            intro e
                            rw [if_pos e] at hfv
                            omega
                          rw [if_neg hne] at hfv
                          exact ⟨hne, hne, .inr (by omega)⟩
                        have ej : fnE fj = [.lst 1 (fj.map intE) false] := by
                          rcases fnE_cases fj with ⟨_, h⟩ | ⟨h, _⟩
                          · exact absurd h h0
                          · exact h
                        rw [ej] at hgj
                        have e23 := r23 dc fj (by simp only [maxLen]; omega)
                        repeat' ((conv => whnf); first | refine And.intro (fun h => h) ?_ | refine dcond_t (by assumption) ?_ | refine dcond_f (by assumption) ?_ | (refine dcond_intro ?_ ?_ <;> intro h) | exact .refl | refine And.intro (by kernel_rfl) ?_ | refine And.intro ⟨fun h => h, fun h => h⟩ ?_ | refine ⟨j, And.intro ⟨rfl, hlfj⟩ ?_⟩ | refine ⟨j, And.intro ⟨⟨fun h => h, fun h => h⟩, fun hg => ⟨rfl, hlfj⟩⟩ ?_⟩ | refine ⟨[DV.lst 1 (fj.map intE) false], And.intro hgj ?_⟩ | refine ⟨[DV.lst 1 (fj.map intE) false], And.intro ⟨fun h => h, fun _ => hgj⟩ ?_⟩ | refine .inl ⟨_, _, DleAll_refl _, e23, ?_⟩ | refine ⟨_, _, DleAll_refl _, fun _ => e23, ?_⟩ | refine ⟨_, _, DleAll_refl _, e23, ?_⟩ | refine Exists.intro false ?_ | (refine And.intro ?_ ?_; focus (simp; done)) | fail)
                        all_goals (conv => whnf)
                        · exfalso
                          have hne : dc ≠ [] := fun e => by
                            rw [e] at h
                            exact absurd h (by simp)
                          rw [dec_same hvw hI2 (hjd hne) hDj, sameI_iff.2 rfl] at h
                          simp at h
                        · clear h
                          refine ⟨(j + 1, fj), ⟨hjlt, fun _ => hDj, by simp only []; omega⟩, by simp only []; omega, ?_⟩
                          conv => whnf
                          exact ⟨⟨.refl, .refl, .refl, .refl, .refl, .refl, .refl, .refl, .refl, .refl, dle_int (wrap_succ (by omega)), trivial⟩, ⟨.refl, .refl, .refl, .refl, .refl, trivial⟩, bnd9 rfl rfl rfl⟩
                      · refine ⟨(j + 1, dc), ⟨hjlt, hjd, hjl⟩, by simp only []; omega, ?_⟩
                        conv => whnf
                        exact ⟨⟨.refl, .refl, .refl, .refl, .refl, .refl, .refl, .refl, .refl, .refl, dle_int (wrap_succ (by omega)), trivial⟩, ⟨.refl, .refl, .refl, .refl, .refl, trivial⟩, bnd9 rfl rfl rfl⟩
                · clear h
                  conv => whnf
                  refine ⟨(i + 1, { P with dec := dc }), ⟨hlt, (accG G a t), inv_dec hI2 dc, hjd, hF2, hjl⟩, by simp only []; omega, ?_⟩
                  conv => whnf
                  exact ⟨⟨.refl, .refl, .refl, .refl, .refl, .refl, .refl, .refl, .refl, dle_int (wrap_succ (by omega)), trivial⟩, ⟨.refl, .refl, .refl, .refl, .refl, trivial⟩, bnd9 rfl rfl rfl⟩
            · rename_i hV hq
              have hI2 := hI
              have hDD : ∀ y, Dec v s G y → Dec v s G y := fun _ h => h
              have hch2 : choA (s : PS) t ≠ [] := hch
              have hq2 : ((v.mem.length / 2 + 1 : Nat) : Int) ≤ (s : PS).took.getD t 0 := by
                have h9 := of_decide_eq_true hq
                rw [quo2 hn.2] at h9
                exact h9
              have hD9 := took_dec hI2 hkt hch2 hq2
              exfalso
              have hne : s.dec ≠ [] := fun e => by
                rw [e] at h
                exact absurd h (by simp)
              have e9 := dec_same hvw hI2 (hDD _ (hD hne)) hD9
              rw [show s.dec = choA s t from e9, sameI_iff.2 rfl] at h
              simp at h
            · rename_i hV hq
              have hI2 := hI
              have hDD : ∀ y, Dec v s G y → Dec v s G y := fun _ h => h
              have hch2 : choA (s : PS) t ≠ [] := hch
              have hq2 : ((v.mem.length / 2 + 1 : Nat) : Int) ≤ (s : PS).took.getD t 0 := by
                have h9 := of_decide_eq_true hq
                rw [quo2 hn.2] at h9
                exact h9
              have hD9 := took_dec hI2 hkt hch2 hq2
              clear h
              have hN : InvN v ({ (s : PS) with dec := choA s t } : PS) (G) := ⟨inv_dec hI2 _, fun _ => hD9, hF1, hcl32⟩
              obtain ⟨P, hP⟩ : ∃ P : PS, P = ({ (s : PS) with dec := choA s t } : PS) := ⟨_, rfl⟩
              rw [← hP] at hN
              obtain ⟨hI2, hD2, hF2, hd2⟩ := hN
              have hFl : ∀ j, (fastA P j).length ≤ 1 := fun j => fast_one hF2 j
              refine ⟨Nat × List Int, fun y => ⟨[(1, .lst 5 (l.map stE) false), (2, .lp 0 0), (5, .lst 1 (cuts.map cutE) false), (6, i64 v.mem.length), (7, .own 1), (8, .own 2), (10, .lp 3 0), (11, .lp 4 0), (12, .lst 1 (y.2.map intE) false), (13, i64 i), (29, i64 y.1)], [.cells 44 (viewE v), .row 28 3 (P.acc.map accE), .row 26 1 (P.fast.map fnE), .cells 63 (triE P.rep P.cho), .cells 65 (P.took.map i64)]⟩, fun y => y.1 ≤ v.mem.length ∧ (y.2 ≠ [] → Dec v P (G) y.2) ∧ y.2.length ≤ 32, fun y => v.mem.length - y.1, [], ⟨(0, P.dec), ⟨Nat.zero_le _, hD2, hd2⟩, ?_⟩, ?_⟩
              · subst hP
                conv => whnf
                refine ⟨⟨.refl, .refl, .refl, .refl, .refl, .refl, .refl, .refl, .refl, .refl, .refl, trivial⟩, ⟨.refl, ?_, ?_, ?_, ?_, trivial⟩, bnd9 rfl rfl rfl⟩
                · exact .refl
                · exact .refl
                · exact .refl
                · exact .refl
              · clear hP
                intro ⟨j, dc⟩ ⟨hj, hjd, hjl⟩
                simp only at hj hjd hjl
                conv => whnf
                refine dcond_intro ?_ ?_ <;> intro h
                · have hjlt : j < v.mem.length := by simpa using h
                  clear h
                  have hlfj : j < (P.fast.map fnE).length := by rw [List.length_map, hI2.lfast]; exact hjlt
                  have hgj := fast_get hI2 hjlt
                  obtain ⟨fj, hfj⟩ : ∃ fj, fj = fastA P j := ⟨_, rfl⟩
                  have hfl : fj.length ≤ 1 := by rw [hfj]; exact hFl j
                  rw [← hfj] at hgj
                  conv => whnf
                  refine ⟨Nat, fun m => ⟨[(1, .lst 5 (l.map stE) false), (2, .lp 0 0), (5, .lst 1 (cuts.map cutE) false), (6, i64 v.mem.length), (7, .own 1), (8, .own 2), (10, .lp 3 0), (11, .lp 4 0), (12, .lst 1 (dc.map intE) false), (13, i64 i), (29, i64 j), (30, i64 (voteC P fj m)), (31, i64 m)], [.cells 44 (viewE v), .row 28 3 (P.acc.map accE), .row 26 1 (P.fast.map fnE), .cells 63 (triE P.rep P.cho), .cells 65 (P.took.map i64)]⟩, fun m => m ≤ v.mem.length, fun m => v.mem.length - m, [], ⟨0, Nat.zero_le _, ?_⟩, ?_⟩
                  · conv => whnf
                    exact ⟨⟨.refl, .refl, .refl, .refl, .refl, .refl, .refl, .refl, .refl, .refl, .refl, dle_int (voteC_zero _ _).symm, .refl, trivial⟩, ⟨.refl, .refl, .refl, .refl, .refl, trivial⟩, bnd9 rfl rfl rfl⟩
                  · intro m hm
                    conv => whnf
                    refine dcond_intro ?_ ?_ <;> intro h
                    · have hmlt : m < v.mem.length := by simpa using h
                      clear h
                      have hlfm : m < (P.fast.map fnE).length := by rw [List.length_map, hI2.lfast]; exact hmlt
                      have hgm := fast_get hI2 hmlt
                      have hvs := voteC_succ P fj m
                      have hvl := voteC_le P fj m
                      obtain ⟨fm, hfm⟩ : ∃ fm, fm = fastA P m := ⟨_, rfl⟩
                      rw [← hfm] at hgm hvs
                      have e23 := r23 fj fm (by simp only [maxLen]; omega)
                      clear hfj hfm
                      rcases fnE_cases fj with ⟨ej, h0⟩ | ⟨ej, h0⟩ <;> rcases fnE_cases fm with ⟨em, h1⟩ | ⟨em, h1⟩
                      · rw [ej] at hgj
                        rw [em] at hgm
                        subst h0
                        subst h1
                        repeat' ((conv => whnf); first | refine And.intro (fun h => h) ?_ | refine dcond_t (by assumption) ?_ | refine dcond_f (by assumption) ?_ | (refine dcond_intro ?_ ?_ <;> intro h) | exact .refl | refine And.intro (by kernel_rfl) ?_ | refine And.intro ⟨fun h => h, fun h => h⟩ ?_ | refine ⟨j, And.intro ⟨rfl, hlfj⟩ ?_⟩ | refine ⟨j, And.intro ⟨⟨fun h => h, fun h => h⟩, fun hg => ⟨rfl, hlfj⟩⟩ ?_⟩ | refine ⟨m, And.intro ⟨⟨fun h => h, fun h => h⟩, fun hg => ⟨rfl, hlfm⟩⟩ ?_⟩ | refine ⟨[DV.nl], And.intro hgj ?_⟩ | refine ⟨[DV.nl], And.intro ⟨fun h => h, fun _ => hgj⟩ ?_⟩ | refine ⟨[DV.nl], And.intro hgm ?_⟩ | refine ⟨[DV.nl], And.intro ⟨fun h => h, fun _ => hgm⟩ ?_⟩ | refine ⟨[.lst 1 (([] : List Int).map intE) false, .lst 1 (([] : List Int).map intE) false], _, ⟨.nl, .nl, trivial⟩, fun _ => e23, ?_⟩ | refine Exists.intro false ?_ | (refine And.intro ?_ ?_; focus (simp; done)) | fail)
                        all_goals (conv => whnf)
                        refine ⟨m + 1, hmlt, by simp only []; omega, ?_⟩
                        conv => whnf
                        exact ⟨⟨.refl, .refl, .refl, .refl, .refl, .refl, .refl, .refl, .refl, .refl, .refl, dle_int (by rw [hvs]; simp), dle_int (wrap_succ (by omega)), trivial⟩, ⟨.refl, .refl, .refl, .refl, .refl, trivial⟩, bnd9 rfl rfl rfl⟩
                      · rw [ej] at hgj
                        rw [em] at hgm
                        subst h0
                        repeat' ((conv => whnf); first | refine And.intro (fun h => h) ?_ | refine dcond_t (by assumption) ?_ | refine dcond_f (by assumption) ?_ | (refine dcond_intro ?_ ?_ <;> intro h) | exact .refl | refine And.intro (by kernel_rfl) ?_ | refine And.intro ⟨fun h => h, fun h => h⟩ ?_ | refine ⟨j, And.intro ⟨rfl, hlfj⟩ ?_⟩ | refine ⟨j, And.intro ⟨⟨fun h => h, fun h => h⟩, fun hg => ⟨rfl, hlfj⟩⟩ ?_⟩ | refine ⟨m, And.intro ⟨⟨fun h => h, fun h => h⟩, fun hg => ⟨rfl, hlfm⟩⟩ ?_⟩ | refine ⟨[DV.nl], And.intro hgj ?_⟩ | refine ⟨[DV.nl], And.intro ⟨fun h => h, fun _ => hgj⟩ ?_⟩ | refine ⟨[DV.lst 1 (fm.map intE) false], And.intro hgm ?_⟩ | refine ⟨[DV.lst 1 (fm.map intE) false], And.intro ⟨fun h => h, fun _ => hgm⟩ ?_⟩ | refine ⟨[.lst 1 (([] : List Int).map intE) false, .lst 1 ((fm : List Int).map intE) false], _, ⟨.nl, .refl, trivial⟩, fun _ => e23, ?_⟩ | refine Exists.intro false ?_ | (refine And.intro ?_ ?_; focus (simp; done)) | fail)
                        all_goals (conv => whnf)
                        refine ⟨m + 1, hmlt, by simp only []; omega, ?_⟩
                        conv => whnf
                        exact ⟨⟨.refl, .refl, .refl, .refl, .refl, .refl, .refl, .refl, .refl, .refl, .refl, dle_int (by rw [hvs]; simp), dle_int (wrap_succ (by omega)), trivial⟩, ⟨.refl, .refl, .refl, .refl, .refl, trivial⟩, bnd9 rfl rfl rfl⟩
                      · rw [ej] at hgj
                        rw [em] at hgm
                        subst h1
                        repeat' ((conv => whnf); first | refine And.intro (fun h => h) ?_ | refine dcond_t (by assumption) ?_ | refine dcond_f (by assumption) ?_ | (refine dcond_intro ?_ ?_ <;> intro h) | exact .refl | refine And.intro (by kernel_rfl) ?_ | refine And.intro ⟨fun h => h, fun h => h⟩ ?_ | refine ⟨j, And.intro ⟨rfl, hlfj⟩ ?_⟩ | refine ⟨j, And.intro ⟨⟨fun h => h, fun h => h⟩, fun hg => ⟨rfl, hlfj⟩⟩ ?_⟩ | refine ⟨m, And.intro ⟨⟨fun h => h, fun h => h⟩, fun hg => ⟨rfl, hlfm⟩⟩ ?_⟩ | refine ⟨[DV.lst 1 (fj.map intE) false], And.intro hgj ?_⟩ | refine ⟨[DV.lst 1 (fj.map intE) false], And.intro ⟨fun h => h, fun _ => hgj⟩ ?_⟩ | refine ⟨[DV.nl], And.intro hgm ?_⟩ | refine ⟨[DV.nl], And.intro ⟨fun h => h, fun _ => hgm⟩ ?_⟩ | refine ⟨[.lst 1 ((fj : List Int).map intE) false, .lst 1 (([] : List Int).map intE) false], _, ⟨.refl, .nl, trivial⟩, fun _ => e23, ?_⟩ | refine Exists.intro false ?_ | (refine And.intro ?_ ?_; focus (simp; done)) | fail)
                        all_goals (conv => whnf)
                        · have he := sameI_iff.1 ((Bool.and_eq_true ..).mp h).2
                          clear h
                          refine ⟨m + 1, hmlt, by simp only []; omega, ?_⟩
                          conv => whnf
                          exact ⟨⟨.refl, .refl, .refl, .refl, .refl, .refl, .refl, .refl, .refl, .refl, .refl, dle_int (by rw [hvs, if_pos ⟨h0, he.symm⟩, wrap_i64 (by omega) (by omega)]), dle_int (wrap_succ (by omega)), trivial⟩, ⟨.refl, .refl, .refl, .refl, .refl, trivial⟩, bnd9 rfl rfl rfl⟩
                        · have he : ¬ (fj ≠ [] ∧ [] = fj) := fun hh => by
                            have h5 : 0 < fj.length := List.length_pos_iff.2 h0
                            rw [hh.2, List.length_map, sameI_iff.2 rfl] at h
                            simp at h
                            exact h0 h
                          clear h
                          refine ⟨m + 1, hmlt, by simp only []; omega, ?_⟩
                          conv => whnf
                          exact ⟨⟨.refl, .refl, .refl, .refl, .refl, .refl, .refl, .refl, .refl, .refl, .refl, dle_int (by rw [hvs, if_neg he, Int.add_zero]), dle_int (wrap_succ (by omega)), trivial⟩, ⟨.refl, .refl, .refl, .refl, .refl, trivial⟩, bnd9 rfl rfl rfl⟩
                      · rw [ej] at hgj
                        rw [em] at hgm
                        repeat' ((conv => whnf); first | refine And.intro (fun h => h) ?_ | refine dcond_t (by assumption) ?_ | refine dcond_f (by assumption) ?_ | (refine dcond_intro ?_ ?_ <;> intro h) | exact .refl | refine And.intro (by kernel_rfl) ?_ | refine And.intro ⟨fun h => h, fun h => h⟩ ?_ | refine ⟨j, And.intro ⟨rfl, hlfj⟩ ?_⟩ | refine ⟨j, And.intro ⟨⟨fun h => h, fun h => h⟩, fun hg => ⟨rfl, hlfj⟩⟩ ?_⟩ | refine ⟨m, And.intro ⟨⟨fun h => h, fun h => h⟩, fun hg => ⟨rfl, hlfm⟩⟩ ?_⟩ | refine ⟨[DV.lst 1 (fj.map intE) false], And.intro hgj ?_⟩ | refine ⟨[DV.lst 1 (fj.map intE) false], And.intro ⟨fun h => h, fun _ => hgj⟩ ?_⟩ | refine ⟨[DV.lst 1 (fm.map intE) false], And.intro hgm ?_⟩ | refine ⟨[DV.lst 1 (fm.map intE) false], And.intro ⟨fun h => h, fun _ => hgm⟩ ?_⟩ | refine ⟨[.lst 1 ((fj : List Int).map intE) false, .lst 1 ((fm : List Int).map intE) false], _, ⟨.refl, .refl, trivial⟩, fun _ => e23, ?_⟩ | refine Exists.intro false ?_ | (refine And.intro ?_ ?_; focus (simp; done)) | fail)
                        all_goals (conv => whnf)
                        · have he := sameI_iff.1 ((Bool.and_eq_true ..).mp h).2
                          clear h
                          refine ⟨m + 1, hmlt, by simp only []; omega, ?_⟩
                          conv => whnf
                          exact ⟨⟨.refl, .refl, .refl, .refl, .refl, .refl, .refl, .refl, .refl, .refl, .refl, dle_int (by rw [hvs, if_pos ⟨h0, he.symm⟩, wrap_i64 (by omega) (by omega)]), dle_int (wrap_succ (by omega)), trivial⟩, ⟨.refl, .refl, .refl, .refl, .refl, trivial⟩, bnd9 rfl rfl rfl⟩
                        · have he : ¬ (fj ≠ [] ∧ fm = fj) := fun hh => by
                            have h5 : 0 < fj.length := List.length_pos_iff.2 h0
                            rw [hh.2, List.length_map, sameI_iff.2 rfl] at h
                            simp at h
                            exact h0 h
                          clear h
                          refine ⟨m + 1, hmlt, by simp only []; omega, ?_⟩
                          conv => whnf
                          exact ⟨⟨.refl, .refl, .refl, .refl, .refl, .refl, .refl, .refl, .refl, .refl, .refl, dle_int (by rw [hvs, if_neg he, Int.add_zero]), dle_int (wrap_succ (by omega)), trivial⟩, ⟨.refl, .refl, .refl, .refl, .refl, trivial⟩, bnd9 rfl rfl rfl⟩
                    · have hmn : m = v.mem.length := by
                        simp at h
                        omega
                      subst hmn
                      clear h
                      conv => whnf
                      refine And.intro (by decide) ?_
                      conv => whnf
                      refine dcond_intro ?_ ?_ <;> intro h
                      · have hfv := of_decide_eq_true h
                        clear h
                        rw [quo9 hn.1 hn.2] at hfv
                        obtain ⟨h0, hDj⟩ : fj ≠ [] ∧ Dec v P (G) fj := by
                          unfold voteC at hfv
                          have hne : fj ≠ [] := by
                            intro e
                            rw [if_pos e] at hfv
                            omega
                          rw [if_neg hne] at hfv
                          exact ⟨hne, hne, .inr (by omega)⟩
                        have ej : fnE fj = [.lst 1 (fj.map intE) false] := by
                          rcases fnE_cases fj with ⟨_, h⟩ | ⟨h, _⟩
                          · exact absurd h h0
                          · exact h
                        rw [ej] at hgj
                        have e23 := r23 dc fj (by simp only [maxLen]; omega)
                        repeat' ((conv => whnf); first | refine And.intro (fun h => h) ?_ | refine dcond_t (by assumption) ?_ | refine dcond_f (by assumption) ?_ | (refine dcond_intro ?_ ?_ <;> intro h) | exact .refl | refine And.intro (by kernel_rfl) ?_ | refine And.intro ⟨fun h => h, fun h => h⟩ ?_ | refine ⟨j, And.intro ⟨rfl, hlfj⟩ ?_⟩ | refine ⟨j, And.intro ⟨⟨fun h => h, fun h => h⟩, fun hg => ⟨rfl, hlfj⟩⟩ ?_⟩ | refine ⟨[DV.lst 1 (fj.map intE) false], And.intro hgj ?_⟩ | refine ⟨[DV.lst 1 (fj.map intE) false], And.intro ⟨fun h => h, fun _ => hgj⟩ ?_⟩ | refine .inl ⟨_, _, DleAll_refl _, e23, ?_⟩ | refine ⟨_, _, DleAll_refl _, fun _ => e23, ?_⟩ | refine ⟨_, _, DleAll_refl _, e23, ?_⟩ | refine Exists.intro false ?_ | (refine And.intro ?_ ?_; focus (simp; done)) | fail)
                        all_goals (conv => whnf)
                        · exfalso
                          have hne : dc ≠ [] := fun e => by
                            rw [e] at h
                            exact absurd h (by simp)
                          rw [dec_same hvw hI2 (hjd hne) hDj, sameI_iff.2 rfl] at h
                          simp at h
                        · clear h
                          refine ⟨(j + 1, fj), ⟨hjlt, fun _ => hDj, by simp only []; omega⟩, by simp only []; omega, ?_⟩
                          conv => whnf
                          exact ⟨⟨.refl, .refl, .refl, .refl, .refl, .refl, .refl, .refl, .refl, .refl, dle_int (wrap_succ (by omega)), trivial⟩, ⟨.refl, .refl, .refl, .refl, .refl, trivial⟩, bnd9 rfl rfl rfl⟩
                      · refine ⟨(j + 1, dc), ⟨hjlt, hjd, hjl⟩, by simp only []; omega, ?_⟩
                        conv => whnf
                        exact ⟨⟨.refl, .refl, .refl, .refl, .refl, .refl, .refl, .refl, .refl, .refl, dle_int (wrap_succ (by omega)), trivial⟩, ⟨.refl, .refl, .refl, .refl, .refl, trivial⟩, bnd9 rfl rfl rfl⟩
                · clear h
                  conv => whnf
                  refine ⟨(i + 1, { P with dec := dc }), ⟨hlt, (G), inv_dec hI2 dc, hjd, hF2, hjl⟩, by simp only []; omega, ?_⟩
                  conv => whnf
                  exact ⟨⟨.refl, .refl, .refl, .refl, .refl, .refl, .refl, .refl, .refl, dle_int (wrap_succ (by omega)), trivial⟩, ⟨.refl, .refl, .refl, .refl, .refl, trivial⟩, bnd9 rfl rfl rfl⟩
            · rename_i hV
              have hI2 := hI
              have hDD : ∀ y, Dec v s G y → Dec v s G y := fun _ h => h
              clear h
              have hN : InvN v (s : PS) (G) := ⟨hI2, fun h => hDD _ (hD h), hF1, hd32⟩
              obtain ⟨P, hP⟩ : ∃ P : PS, P = (s : PS) := ⟨_, rfl⟩
              rw [← hP] at hN
              obtain ⟨hI2, hD2, hF2, hd2⟩ := hN
              have hFl : ∀ j, (fastA P j).length ≤ 1 := fun j => fast_one hF2 j
              refine ⟨Nat × List Int, fun y => ⟨[(1, .lst 5 (l.map stE) false), (2, .lp 0 0), (5, .lst 1 (cuts.map cutE) false), (6, i64 v.mem.length), (7, .own 1), (8, .own 2), (10, .lp 3 0), (11, .lp 4 0), (12, .lst 1 (y.2.map intE) false), (13, i64 i), (29, i64 y.1)], [.cells 44 (viewE v), .row 28 3 (P.acc.map accE), .row 26 1 (P.fast.map fnE), .cells 63 (triE P.rep P.cho), .cells 65 (P.took.map i64)]⟩, fun y => y.1 ≤ v.mem.length ∧ (y.2 ≠ [] → Dec v P (G) y.2) ∧ y.2.length ≤ 32, fun y => v.mem.length - y.1, [], ⟨(0, P.dec), ⟨Nat.zero_le _, hD2, hd2⟩, ?_⟩, ?_⟩
              · subst hP
                conv => whnf
                refine ⟨⟨.refl, .refl, .refl, .refl, .refl, .refl, .refl, .refl, .refl, .refl, .refl, trivial⟩, ⟨.refl, ?_, ?_, ?_, ?_, trivial⟩, bnd9 rfl rfl rfl⟩
                · exact .refl
                · exact .refl
                · exact .refl
                · exact .refl
              · clear hP
                intro ⟨j, dc⟩ ⟨hj, hjd, hjl⟩
                simp only at hj hjd hjl
                conv => whnf
                refine dcond_intro ?_ ?_ <;> intro h
                · have hjlt : j < v.mem.length := by simpa using h
                  clear h
                  have hlfj : j < (P.fast.map fnE).length := by rw [List.length_map, hI2.lfast]; exact hjlt
                  have hgj := fast_get hI2 hjlt
                  obtain ⟨fj, hfj⟩ : ∃ fj, fj = fastA P j := ⟨_, rfl⟩
                  have hfl : fj.length ≤ 1 := by rw [hfj]; exact hFl j
                  rw [← hfj] at hgj
                  conv => whnf
                  refine ⟨Nat, fun m => ⟨[(1, .lst 5 (l.map stE) false), (2, .lp 0 0), (5, .lst 1 (cuts.map cutE) false), (6, i64 v.mem.length), (7, .own 1), (8, .own 2), (10, .lp 3 0), (11, .lp 4 0), (12, .lst 1 (dc.map intE) false), (13, i64 i), (29, i64 j), (30, i64 (voteC P fj m)), (31, i64 m)], [.cells 44 (viewE v), .row 28 3 (P.acc.map accE), .row 26 1 (P.fast.map fnE), .cells 63 (triE P.rep P.cho), .cells 65 (P.took.map i64)]⟩, fun m => m ≤ v.mem.length, fun m => v.mem.length - m, [], ⟨0, Nat.zero_le _, ?_⟩, ?_⟩
                  · conv => whnf
                    exact ⟨⟨.refl, .refl, .refl, .refl, .refl, .refl, .refl, .refl, .refl, .refl, .refl, dle_int (voteC_zero _ _).symm, .refl, trivial⟩, ⟨.refl, .refl, .refl, .refl, .refl, trivial⟩, bnd9 rfl rfl rfl⟩
                  · intro m hm
                    conv => whnf
                    refine dcond_intro ?_ ?_ <;> intro h
                    · have hmlt : m < v.mem.length := by simpa using h
                      clear h
                      have hlfm : m < (P.fast.map fnE).length := by rw [List.length_map, hI2.lfast]; exact hmlt
                      have hgm := fast_get hI2 hmlt
                      have hvs := voteC_succ P fj m
                      have hvl := voteC_le P fj m
                      obtain ⟨fm, hfm⟩ : ∃ fm, fm = fastA P m := ⟨_, rfl⟩
                      rw [← hfm] at hgm hvs
                      have e23 := r23 fj fm (by simp only [maxLen]; omega)
                      clear hfj hfm
                      rcases fnE_cases fj with ⟨ej, h0⟩ | ⟨ej, h0⟩ <;> rcases fnE_cases fm with ⟨em, h1⟩ | ⟨em, h1⟩
                      · rw [ej] at hgj
                        rw [em] at hgm
                        subst h0
                        subst h1
                        repeat' ((conv => whnf); first | refine And.intro (fun h => h) ?_ | refine dcond_t (by assumption) ?_ | refine dcond_f (by assumption) ?_ | (refine dcond_intro ?_ ?_ <;> intro h) | exact .refl | refine And.intro (by kernel_rfl) ?_ | refine And.intro ⟨fun h => h, fun h => h⟩ ?_ | refine ⟨j, And.intro ⟨rfl, hlfj⟩ ?_⟩ | refine ⟨j, And.intro ⟨⟨fun h => h, fun h => h⟩, fun hg => ⟨rfl, hlfj⟩⟩ ?_⟩ | refine ⟨m, And.intro ⟨⟨fun h => h, fun h => h⟩, fun hg => ⟨rfl, hlfm⟩⟩ ?_⟩ | refine ⟨[DV.nl], And.intro hgj ?_⟩ | refine ⟨[DV.nl], And.intro ⟨fun h => h, fun _ => hgj⟩ ?_⟩ | refine ⟨[DV.nl], And.intro hgm ?_⟩ | refine ⟨[DV.nl], And.intro ⟨fun h => h, fun _ => hgm⟩ ?_⟩ | refine ⟨[.lst 1 (([] : List Int).map intE) false, .lst 1 (([] : List Int).map intE) false], _, ⟨.nl, .nl, trivial⟩, fun _ => e23, ?_⟩ | refine Exists.intro false ?_ | (refine And.intro ?_ ?_; focus (simp; done)) | fail)
                        all_goals (conv => whnf)
                        refine ⟨m + 1, hmlt, by simp only []; omega, ?_⟩
                        conv => whnf
                        exact ⟨⟨.refl, .refl, .refl, .refl, .refl, .refl, .refl, .refl, .refl, .refl, .refl, dle_int (by rw [hvs]; simp), dle_int (wrap_succ (by omega)), trivial⟩, ⟨.refl, .refl, .refl, .refl, .refl, trivial⟩, bnd9 rfl rfl rfl⟩
                      · rw [ej] at hgj
                        rw [em] at hgm
                        subst h0
                        repeat' ((conv => whnf); first | refine And.intro (fun h => h) ?_ | refine dcond_t (by assumption) ?_ | refine dcond_f (by assumption) ?_ | (refine dcond_intro ?_ ?_ <;> intro h) | exact .refl | refine And.intro (by kernel_rfl) ?_ | refine And.intro ⟨fun h => h, fun h => h⟩ ?_ | refine ⟨j, And.intro ⟨rfl, hlfj⟩ ?_⟩ | refine ⟨j, And.intro ⟨⟨fun h => h, fun h => h⟩, fun hg => ⟨rfl, hlfj⟩⟩ ?_⟩ | refine ⟨m, And.intro ⟨⟨fun h => h, fun h => h⟩, fun hg => ⟨rfl, hlfm⟩⟩ ?_⟩ | refine ⟨[DV.nl], And.intro hgj ?_⟩ | refine ⟨[DV.nl], And.intro ⟨fun h => h, fun _ => hgj⟩ ?_⟩ | refine ⟨[DV.lst 1 (fm.map intE) false], And.intro hgm ?_⟩ | refine ⟨[DV.lst 1 (fm.map intE) false], And.intro ⟨fun h => h, fun _ => hgm⟩ ?_⟩ | refine ⟨[.lst 1 (([] : List Int).map intE) false, .lst 1 ((fm : List Int).map intE) false], _, ⟨.nl, .refl, trivial⟩, fun _ => e23, ?_⟩ | refine Exists.intro false ?_ | (refine And.intro ?_ ?_; focus (simp; done)) | fail)
                        all_goals (conv => whnf)
                        refine ⟨m + 1, hmlt, by simp only []; omega, ?_⟩
                        conv => whnf
                        exact ⟨⟨.refl, .refl, .refl, .refl, .refl, .refl, .refl, .refl, .refl, .refl, .refl, dle_int (by rw [hvs]; simp), dle_int (wrap_succ (by omega)), trivial⟩, ⟨.refl, .refl, .refl, .refl, .refl, trivial⟩, bnd9 rfl rfl rfl⟩
                      · rw [ej] at hgj
                        rw [em] at hgm
                        subst h1
                        repeat' ((conv => whnf); first | refine And.intro (fun h => h) ?_ | refine dcond_t (by assumption) ?_ | refine dcond_f (by assumption) ?_ | (refine dcond_intro ?_ ?_ <;> intro h) | exact .refl | refine And.intro (by kernel_rfl) ?_ | refine And.intro ⟨fun h => h, fun h => h⟩ ?_ | refine ⟨j, And.intro ⟨rfl, hlfj⟩ ?_⟩ | refine ⟨j, And.intro ⟨⟨fun h => h, fun h => h⟩, fun hg => ⟨rfl, hlfj⟩⟩ ?_⟩ | refine ⟨m, And.intro ⟨⟨fun h => h, fun h => h⟩, fun hg => ⟨rfl, hlfm⟩⟩ ?_⟩ | refine ⟨[DV.lst 1 (fj.map intE) false], And.intro hgj ?_⟩ | refine ⟨[DV.lst 1 (fj.map intE) false], And.intro ⟨fun h => h, fun _ => hgj⟩ ?_⟩ | refine ⟨[DV.nl], And.intro hgm ?_⟩ | refine ⟨[DV.nl], And.intro ⟨fun h => h, fun _ => hgm⟩ ?_⟩ | refine ⟨[.lst 1 ((fj : List Int).map intE) false, .lst 1 (([] : List Int).map intE) false], _, ⟨.refl, .nl, trivial⟩, fun _ => e23, ?_⟩ | refine Exists.intro false ?_ | (refine And.intro ?_ ?_; focus (simp; done)) | fail)
                        all_goals (conv => whnf)
                        · have he := sameI_iff.1 ((Bool.and_eq_true ..).mp h).2
                          clear h
                          refine ⟨m + 1, hmlt, by simp only []; omega, ?_⟩
                          conv => whnf
                          exact ⟨⟨.refl, .refl, .refl, .refl, .refl, .refl, .refl, .refl, .refl, .refl, .refl, dle_int (by rw [hvs, if_pos ⟨h0, he.symm⟩, wrap_i64 (by omega) (by omega)]), dle_int (wrap_succ (by omega)), trivial⟩, ⟨.refl, .refl, .refl, .refl, .refl, trivial⟩, bnd9 rfl rfl rfl⟩
                        · have he : ¬ (fj ≠ [] ∧ [] = fj) := fun hh => by
                            have h5 : 0 < fj.length := List.length_pos_iff.2 h0
                            rw [hh.2, List.length_map, sameI_iff.2 rfl] at h
                            simp at h
                            exact h0 h
                          clear h
                          refine ⟨m + 1, hmlt, by simp only []; omega, ?_⟩
                          conv => whnf
                          exact ⟨⟨.refl, .refl, .refl, .refl, .refl, .refl, .refl, .refl, .refl, .refl, .refl, dle_int (by rw [hvs, if_neg he, Int.add_zero]), dle_int (wrap_succ (by omega)), trivial⟩, ⟨.refl, .refl, .refl, .refl, .refl, trivial⟩, bnd9 rfl rfl rfl⟩
                      · rw [ej] at hgj
                        rw [em] at hgm
                        repeat' ((conv => whnf); first | refine And.intro (fun h => h) ?_ | refine dcond_t (by assumption) ?_ | refine dcond_f (by assumption) ?_ | (refine dcond_intro ?_ ?_ <;> intro h) | exact .refl | refine And.intro (by kernel_rfl) ?_ | refine And.intro ⟨fun h => h, fun h => h⟩ ?_ | refine ⟨j, And.intro ⟨rfl, hlfj⟩ ?_⟩ | refine ⟨j, And.intro ⟨⟨fun h => h, fun h => h⟩, fun hg => ⟨rfl, hlfj⟩⟩ ?_⟩ | refine ⟨m, And.intro ⟨⟨fun h => h, fun h => h⟩, fun hg => ⟨rfl, hlfm⟩⟩ ?_⟩ | refine ⟨[DV.lst 1 (fj.map intE) false], And.intro hgj ?_⟩ | refine ⟨[DV.lst 1 (fj.map intE) false], And.intro ⟨fun h => h, fun _ => hgj⟩ ?_⟩ | refine ⟨[DV.lst 1 (fm.map intE) false], And.intro hgm ?_⟩ | refine ⟨[DV.lst 1 (fm.map intE) false], And.intro ⟨fun h => h, fun _ => hgm⟩ ?_⟩ | refine ⟨[.lst 1 ((fj : List Int).map intE) false, .lst 1 ((fm : List Int).map intE) false], _, ⟨.refl, .refl, trivial⟩, fun _ => e23, ?_⟩ | refine Exists.intro false ?_ | (refine And.intro ?_ ?_; focus (simp; done)) | fail)
                        all_goals (conv => whnf)
                        · have he := sameI_iff.1 ((Bool.and_eq_true ..).mp h).2
                          clear h
                          refine ⟨m + 1, hmlt, by simp only []; omega, ?_⟩
                          conv => whnf
                          exact ⟨⟨.refl, .refl, .refl, .refl, .refl, .refl, .refl, .refl, .refl, .refl, .refl, dle_int (by rw [hvs, if_pos ⟨h0, he.symm⟩, wrap_i64 (by omega) (by omega)]), dle_int (wrap_succ (by omega)), trivial⟩, ⟨.refl, .refl, .refl, .refl, .refl, trivial⟩, bnd9 rfl rfl rfl⟩
                        · have he : ¬ (fj ≠ [] ∧ fm = fj) := fun hh => by
                            have h5 : 0 < fj.length := List.length_pos_iff.2 h0
                            rw [hh.2, List.length_map, sameI_iff.2 rfl] at h
                            simp at h
                            exact h0 h
                          clear h
                          refine ⟨m + 1, hmlt, by simp only []; omega, ?_⟩
                          conv => whnf
                          exact ⟨⟨.refl, .refl, .refl, .refl, .refl, .refl, .refl, .refl, .refl, .refl, .refl, dle_int (by rw [hvs, if_neg he, Int.add_zero]), dle_int (wrap_succ (by omega)), trivial⟩, ⟨.refl, .refl, .refl, .refl, .refl, trivial⟩, bnd9 rfl rfl rfl⟩
                    · have hmn : m = v.mem.length := by
                        simp at h
                        omega
                      subst hmn
                      clear h
                      conv => whnf
                      refine And.intro (by decide) ?_
                      conv => whnf
                      refine dcond_intro ?_ ?_ <;> intro h
                      · have hfv := of_decide_eq_true h
                        clear h
                        rw [quo9 hn.1 hn.2] at hfv
                        obtain ⟨h0, hDj⟩ : fj ≠ [] ∧ Dec v P (G) fj := by
                          unfold voteC at hfv
                          have hne : fj ≠ [] := by
                            intro e
                            rw [if_pos e] at hfv
                            omega
                          rw [if_neg hne] at hfv
                          exact ⟨hne, hne, .inr (by omega)⟩
                        have ej : fnE fj = [.lst 1 (fj.map intE) false] := by
                          rcases fnE_cases fj with ⟨_, h⟩ | ⟨h, _⟩
                          · exact absurd h h0
                          · exact h
                        rw [ej] at hgj
                        have e23 := r23 dc fj (by simp only [maxLen]; omega)
                        repeat' ((conv => whnf); first | refine And.intro (fun h => h) ?_ | refine dcond_t (by assumption) ?_ | refine dcond_f (by assumption) ?_ | (refine dcond_intro ?_ ?_ <;> intro h) | exact .refl | refine And.intro (by kernel_rfl) ?_ | refine And.intro ⟨fun h => h, fun h => h⟩ ?_ | refine ⟨j, And.intro ⟨rfl, hlfj⟩ ?_⟩ | refine ⟨j, And.intro ⟨⟨fun h => h, fun h => h⟩, fun hg => ⟨rfl, hlfj⟩⟩ ?_⟩ | refine ⟨[DV.lst 1 (fj.map intE) false], And.intro hgj ?_⟩ | refine ⟨[DV.lst 1 (fj.map intE) false], And.intro ⟨fun h => h, fun _ => hgj⟩ ?_⟩ | refine .inl ⟨_, _, DleAll_refl _, e23, ?_⟩ | refine ⟨_, _, DleAll_refl _, fun _ => e23, ?_⟩ | refine ⟨_, _, DleAll_refl _, e23, ?_⟩ | refine Exists.intro false ?_ | (refine And.intro ?_ ?_; focus (simp; done)) | fail)
                        all_goals (conv => whnf)
                        · exfalso
                          have hne : dc ≠ [] := fun e => by
                            rw [e] at h
                            exact absurd h (by simp)
                          rw [dec_same hvw hI2 (hjd hne) hDj, sameI_iff.2 rfl] at h
                          simp at h
                        · clear h
                          refine ⟨(j + 1, fj), ⟨hjlt, fun _ => hDj, by simp only []; omega⟩, by simp only []; omega, ?_⟩
                          conv => whnf
                          exact ⟨⟨.refl, .refl, .refl, .refl, .refl, .refl, .refl, .refl, .refl, .refl, dle_int (wrap_succ (by omega)), trivial⟩, ⟨.refl, .refl, .refl, .refl, .refl, trivial⟩, bnd9 rfl rfl rfl⟩
                      · refine ⟨(j + 1, dc), ⟨hjlt, hjd, hjl⟩, by simp only []; omega, ?_⟩
                        conv => whnf
                        exact ⟨⟨.refl, .refl, .refl, .refl, .refl, .refl, .refl, .refl, .refl, .refl, dle_int (wrap_succ (by omega)), trivial⟩, ⟨.refl, .refl, .refl, .refl, .refl, trivial⟩, bnd9 rfl rfl rfl⟩
                · clear h
                  conv => whnf
                  refine ⟨(i + 1, { P with dec := dc }), ⟨hlt, (G), inv_dec hI2 dc, hjd, hF2, hjl⟩, by simp only []; omega, ?_⟩
                  conv => whnf
                  exact ⟨⟨.refl, .refl, .refl, .refl, .refl, .refl, .refl, .refl, .refl, dle_int (wrap_succ (by omega)), trivial⟩, ⟨.refl, .refl, .refl, .refl, .refl, trivial⟩, bnd9 rfl rfl rfl⟩
end Go.Proofs.Ytmfgjjnmfahcjaa
