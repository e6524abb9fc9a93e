/- The laws of this seat, part OwB: contracts of the functions, plain laws. No conditions. -/
import Derived.Test.YthdpjinchanceaaOwA
set_option linter.unusedSimpArgs false
set_option linter.unusedVariables false
set_option maxRecDepth 100000
namespace Go.Proofs.Ythdpjinchanceaa
open Go.Lift
/-! actorgridref13 -/
theorem twk_eq {α : Type} {p : α → Bool} {d : α} : ∀ {l : List α} {k : Nat}, k ≤ l.length → (∀ j, j < k → p (l.getD j d) = true) → (k = l.length ∨ p (l.getD k d) = false) → (l.takeWhile p).length = k
  | [], k, h, _, _ => by
    have : k = 0 := by simpa using h
    subst this
    rfl
  | x :: t, 0, _, _, h2 => by
    have : p x = false := by
      rcases h2 with h2 | h2
      · simp at h2
      · simpa using h2
    rw [List.takeWhile_cons, this]
    rfl
  | x :: t, k + 1, h, h1, h2 => by
    have hx : p x = true := by simpa using h1 0 (by omega)
    have ih := twk_eq (p := p) (d := d) (l := t) (k := k) (by simpa using h) (fun j hj => by simpa using h1 (j + 1) (by omega)) (by simpa using h2)
    rw [List.takeWhile_cons, hx]
    simp [ih]
theorem twk_mem {α : Type} {p : α → Bool} {x : α} : ∀ {l : List α}, x ∈ l.takeWhile p → p x = true
  | [], h => by simp at h
  | y :: t, h => by
    rw [List.takeWhile_cons] at h
    split at h
    · rename_i hy
      rcases List.mem_cons.1 h with rfl | h
      · exact hy
      · exact twk_mem h
    · simp at h
theorem twk_at {α : Type} {p : α → Bool} : ∀ {l : List α} (h : (l.takeWhile p).length < l.length), p (l[(l.takeWhile p).length]) = false
  | [], h => by simp at h
  | x :: t, h => by
    cases hx : p x
    · simp [List.takeWhile_cons, hx]
    · have h2 : (t.takeWhile p).length < t.length := by
        simpa [List.takeWhile_cons, hx] using h
      have := twk_at (p := p) h2
      simpa [List.takeWhile_cons, hx] using this
def ltT (a b : Tok) : Bool := Go.Proofs.ltOf cmpTok a b
def insTK (o : List Tok) (t : Tok) : Nat := (o.takeWhile fun y => ltT y t).length
def insT (o : List Tok) (t : Tok) : List Tok := o.take (insTK o t) ++ [t] ++ o.drop (insTK o t)
def insTs (Q : List Tok) : List Tok := Q.foldl insT []
theorem insTs_snoc (Q : List Tok) (t : Tok) : insTs (Q ++ [t]) = insT (insTs Q) t := by
  unfold insTs
  rw [List.foldl_append]
  rfl
theorem insT_perm (o : List Tok) (t : Tok) : (insT o t).Perm (t :: o) := by
  unfold insT
  rw [List.append_assoc, List.singleton_append]
  refine List.perm_middle.trans ?_
  rw [List.take_append_drop]
theorem insT_len (o : List Tok) (t : Tok) : (insT o t).length = o.length + 1 := (insT_perm o t).length_eq
theorem ltT_irr (a : Tok) : ltT a a = false := tok_swo.irrefl a
theorem ltT_asym {a b : Tok} (h : ltT a b = true) : ltT b a = false := by
  cases h2 : ltT b a
  · rfl
  · have := tok_swo.trans _ _ _ h h2
    have h3 := ltT_irr a
    unfold ltT at h3
    rw [h3] at this
    cases this
theorem insT_sorted {o : List Tok} (t : Tok) (h : o.Pairwise fun x y => ltT y x = false) : (insT o t).Pairwise fun x y => ltT y x = false := by
  have hb : ∀ x ∈ o.take (insTK o t), ltT x t = true := fun x hx => by
    unfold insTK at hx
    rw [← List.prefix_iff_eq_take.1 (List.takeWhile_prefix _)] at hx
    exact twk_mem (p := fun y => ltT y t) hx
  have hat : ∀ h : insTK o t < o.length, ltT o[insTK o t] t = false := fun h => twk_at (p := fun y => ltT y t) h
  unfold insT
  generalize insTK o t = k at *
  have ha : ∀ y ∈ o.drop k, ltT y t = false := fun y hy => by
    obtain ⟨j, hj, rfl⟩ := List.getElem_of_mem hy
    rw [List.length_drop] at hj
    rw [List.getElem_drop]
    have hk : k < o.length := by omega
    rcases Nat.eq_zero_or_pos j with rfl | hj0
    · exact hat hk
    · have h1 := List.pairwise_iff_getElem.1 h k (k + j) hk (by omega) (by omega)
      exact tok_swo.ntrans _ _ _ h1 (hat hk)
  have h3 := List.take_append_drop k o
  generalize o.take k = A at *
  generalize o.drop k = B at *
  subst h3
  rw [List.append_assoc, List.singleton_append, List.pairwise_append]
  rw [List.pairwise_append] at h
  refine ⟨h.1, List.pairwise_cons.2 ⟨ha, h.2.1⟩, fun a ha' b hb' => ?_⟩
  rcases List.mem_cons.1 hb' with rfl | hb'
  · exact ltT_asym (hb a ha')
  · exact h.2.2 a ha' b hb'
theorem insTs_sorted (Q : List Tok) : (insTs Q).Pairwise (fun x y => ltT y x = false) ∧ (insTs Q).Perm Q := by
  have key : ∀ R : List Tok, (insTs R.reverse).Pairwise (fun x y => ltT y x = false) ∧ (insTs R.reverse).Perm R.reverse := fun R => by
    induction R with
    | nil => simp [insTs]
    | cons a R ih =>
      rw [List.reverse_cons, insTs_snoc]
      exact ⟨insT_sorted a ih.1, (insT_perm _ _).trans ((ih.2.cons a).trans (List.perm_append_singleton _ _).symm)⟩
  have := key Q.reverse
  rwa [List.reverse_reverse] at this
theorem insTs_len (Q : List Tok) : (insTs Q).length = Q.length := (insTs_sorted Q).2.length_eq
theorem insTs_eq {ms : List Int} (hv : idsB ms 16 = true) : insTs (toksOf ms) = tableR ms := by
  have ht : tableR ms = sortL cmpTok (toksOf ms) := by simp only [tableR, hv, cond_true]
  rw [ht]
  obtain ⟨h1, h2⟩ := insTs_sorted (toksOf ms)
  exact sorted_eq tok_anti (h2.trans (sortL_perm _ _).symm) h1 (sortL_sorted tok_swo _)
theorem ltT_eq (a b : Tok) : ltT a b = bif !decide (a.pos = b.pos) then decide (a.pos < b.pos) else decide (a.mem < b.mem) || (decide (a.mem = b.mem) && decide (a.ix < b.ix)) := by
  have h1 : ltT a b = true ↔ ltTok a b := ltTok_iff a b
  have h2 : (bif !decide (a.pos = b.pos) then decide (a.pos < b.pos) else decide (a.mem < b.mem) || (decide (a.mem = b.mem) && decide (a.ix < b.ix))) = true ↔ ltTok a b := by
    unfold ltTok
    by_cases h : a.pos = b.pos
    · rw [decide_eq_true h, Bool.not_true, cond_false, Bool.or_eq_true, Bool.and_eq_true, decide_eq_true_eq, decide_eq_true_eq, decide_eq_true_eq]
      constructor
      · intro h2
        exact .inr ⟨h, h2⟩
      · rintro (h2 | ⟨_, h2⟩)
        · omega
        · exact h2
    · rw [decide_eq_false h, Bool.not_false, cond_true, decide_eq_true_eq]
      constructor
      · exact .inl
      · rintro (h2 | ⟨h2, _⟩)
        · exact h2
        · exact absurd h2 h
  cases hx : ltT a b
  · cases hy : (bif !decide (a.pos = b.pos) then decide (a.pos < b.pos) else decide (a.mem < b.mem) || (decide (a.mem = b.mem) && decide (a.ix < b.ix)))
    · rfl
    · have := h1.2 (h2.1 hy)
      rw [hx] at this
      cases this
  · exact (h2.2 (h1.1 hx)).symm
theorem c_r13_less (a b : Tok) : Ret Try.prog 73 [.agg (tokE a), .agg (tokE b)] (.v (.bool (ltT a b))) := by
  rw [ltT_eq]
  refine ret_of_body (fn := Try.f73) (c := Try.f73.body.getD .skip) hm hT (by kernel_rfl) Try.func73 (by kernel_rfl) (by kernel_rfl) (by kernel_rfl) (by kernel_rfl) ?_
  repeat' ((conv => whnf); first | refine And.intro (fun h => h) ?_ | refine dcond_t (by assumption) ?_ | refine dcond_f (by assumption) ?_ | (refine dcond_intro ?_ ?_ <;> intro h) | exact .refl | refine And.intro (by kernel_rfl) ?_ | refine And.intro ⟨fun h => h, fun h => h⟩ ?_ | refine Exists.intro false ?_ | (refine And.intro ?_ ?_; focus (simp; done)) | fail)
  all_goals (conv => whnf)
  · rw [h]
    exact .refl
  · rw [h]
    exact .refl
set_option maxRecDepth 100000 in
theorem c_r13_Table (ms : List Int) (hl : ms.length ≤ maxLen) : Ret Try.prog 64 [.lst 1 (ms.map intE) false] (.lst 3 ((tableR ms).map tokE) false) := by
  have e1 := c_ref3_ValidMembers ms hl
  refine ret_of_body (fn := Try.f64) (c := Try.f64.body.getD .skip) hm hT (by kernel_rfl) Try.func64 (by kernel_rfl) (by kernel_rfl) (by kernel_rfl) (by kernel_rfl) ?_
  repeat' ((conv => whnf); first | refine And.intro (fun h => h) ?_ | refine dcond_t (by assumption) ?_ | refine dcond_f (by assumption) ?_ | (refine dcond_intro ?_ ?_ <;> intro h) | exact .refl | refine And.intro (by kernel_rfl) ?_ | refine And.intro ⟨fun h => h, fun h => h⟩ ?_ | refine .inl ⟨_, _, DleAll_refl _, e1, ?_⟩ | refine ⟨_, _, DleAll_refl _, fun _ => e1, ?_⟩ | refine ⟨_, _, DleAll_refl _, e1, ?_⟩ | refine Exists.intro false ?_ | (refine And.intro ?_ ?_; focus (simp; done)) | fail)
  all_goals (conv => whnf)
  · have h : idsB ms 16 = false := by simpa using h
    simp only [tableR, h, cond_false]
    exact .nl
  · have hv : idsB ms 16 = true := by simpa using h
    clear h
    have h16 := (ids_pw.1 hv).1
    rw [← insTs_eq hv]
    refine ⟨Nat, fun i => ⟨[(0, .lst 1 (ms.map intE) false), (3, .lst 3 ((insTs (toksOf (ms.take i))).map tokE) false), (4, i64 i)], []⟩, fun i => i ≤ ms.length, fun i => ms.length - i, [.shut 3], ⟨0, Nat.zero_le _, ?_⟩, ?_⟩
    · conv => whnf
      exact ⟨⟨.refl, .nl, .refl, trivial⟩, trivial, by rfl⟩
    · intro i hi
      repeat' ((conv => whnf); first | refine And.intro (fun h => h) ?_ | refine dcond_t (by assumption) ?_ | refine dcond_f (by assumption) ?_ | (refine dcond_intro ?_ ?_ <;> intro h) | exact .refl | refine And.intro (by kernel_rfl) ?_ | refine And.intro ⟨fun h => h, fun h => h⟩ ?_ | refine Exists.intro false ?_ | (refine And.intro ?_ ?_; focus (simp; done)) | fail)
      · have hlt : i < ms.length := by simpa using h
        clear h
        have htk := toks_take hlt
        have hTl : (toksOf (ms.take i)).length = 8 * i := by
          rw [toks_len, List.length_take]
          omega
        have hMt := fun k h => tokM_take ms[i] (i := k) h
        have hM8 : (tokM ms[i]).take 8 = tokM ms[i] := List.take_of_length_le (by simp [tokM])
        generalize toksOf (ms.take i) = T0 at *
        conv => whnf
        refine ⟨Nat, fun k => ⟨[(0, .lst 1 (ms.map intE) false), (3, .lst 3 ((insTs (T0 ++ (tokM ms[i]).take k)).map tokE) false), (4, i64 i), (5, i64 k)], []⟩, fun k => k ≤ 8, fun k => 8 - k, [.shut 3], ⟨0, Nat.zero_le _, ?_⟩, ?_⟩
        · conv => whnf
          exact ⟨⟨.refl, dle_lst (by rw [List.take_zero, List.append_nil]), .refl, .refl, trivial⟩, trivial, by rfl⟩
        · intro k hk
          have hol : (insTs (T0 ++ (tokM ms[i]).take k)).length ≤ 8 * i + 8 := by
            rw [insTs_len, List.length_append, List.length_take]
            omega
          repeat' ((conv => whnf); first | refine And.intro (fun h => h) ?_ | refine dcond_t (by assumption) ?_ | refine dcond_f (by assumption) ?_ | (refine dcond_intro ?_ ?_ <;> intro h) | exact .refl | refine And.intro (by kernel_rfl) ?_ | refine And.intro ⟨fun h => h, fun h => h⟩ ?_ | refine Exists.intro false ?_ | (refine And.intro ?_ ?_; focus (simp; done)) | fail)
          · have hk8 : k < 8 := by
              simp at h
              omega
            clear h
            have hnx : insTs (T0 ++ (tokM ms[i]).take (k + 1)) = insT (insTs (T0 ++ (tokM ms[i]).take k)) ⟨tokR ms[i] k, ms[i], k⟩ := by
              rw [hMt k hk8, ← List.append_assoc, insTs_snoc]
            generalize insTs (T0 ++ (tokM ms[i]).take k) = O at *
            have et := c_r2_Token ms[i] k
            repeat' ((conv => whnf); first | refine And.intro (fun h => h) ?_ | refine dcond_t (by assumption) ?_ | refine dcond_f (by assumption) ?_ | (refine dcond_intro ?_ ?_ <;> intro h) | exact .refl | refine And.intro (by kernel_rfl) ?_ | refine And.intro ⟨fun h => h, fun h => h⟩ ?_ | refine ⟨_, _, And.intro ⟨rfl, get_map hlt⟩ ?_⟩ | refine .inl ⟨_, _, DleAll_refl _, et, ?_⟩ | refine ⟨_, _, DleAll_refl _, fun _ => et, ?_⟩ | refine ⟨_, _, DleAll_refl _, et, ?_⟩ | refine Exists.intro false ?_ | (refine And.intro ?_ ?_; focus (simp; done)) | fail)
            all_goals (conv => whnf)
            generalize htd : (⟨tokR ms[i] k, ms[i], k⟩ : Tok) = t at *
            have hte : tokE t = [u64 (tokR ms[i] k), i64 ms[i], i64 k] := by rw [← htd]; rfl
            refine ⟨Nat, fun q => ⟨[(0, .lst 1 (ms.map intE) false), (3, .lst 3 (O.map tokE) false), (4, i64 i), (5, i64 k), (6, .lp 0 0), (7, i64 q)], [.cells 76 (tokE t)]⟩, fun q => q ≤ O.length ∧ ∀ j, j < q → ltT (O.getD j tok0) t = true, fun q => O.length - q, [], ⟨0, ⟨Nat.zero_le _, by omega⟩, ?_⟩, ?_⟩
            · conv => whnf
              refine ⟨⟨.refl, .refl, .refl, .refl, .refl, .refl, trivial⟩, ⟨?_, trivial⟩, by rfl⟩
              rw [hte]
              exact .refl
            · intro q ⟨hq, hall⟩
              have hgq : decide ((q : Int) < ((O.map tokE).length : Int)) = true → (O.map tokE)[q]? = some (tokE (O.getD q tok0)) := fun h => by
                have h := of_decide_eq_true h
                rw [List.length_map] at h
                have : q < O.length := by omega
                simp [this]
              have el := c_r13_less (O.getD q tok0) t
              have hK : (q = O.length ∨ ltT (O.getD q tok0) t = false) → insTK O t = q := fun h => twk_eq hq hall h
              generalize hlq : ltT (O.getD q tok0) t = lq at *
              generalize hoq : O.getD q tok0 = oq at *
              repeat' ((conv => whnf); first | refine And.intro (fun h => h) ?_ | refine dcond_t (by assumption) ?_ | refine dcond_f (by assumption) ?_ | (refine dcond_intro ?_ ?_ <;> intro h) | exact .refl | refine And.intro (by kernel_rfl) ?_ | refine And.intro ⟨fun h => h, fun h => h⟩ ?_ | refine ⟨q, tokE oq, And.intro ⟨⟨fun h => h, fun h => h⟩, fun hg => ⟨rfl, hgq hg⟩⟩ ?_⟩ | refine .inl ⟨_, _, DleAll_refl _, el, ?_⟩ | refine ⟨_, _, DleAll_refl _, fun _ => el, ?_⟩ | refine ⟨_, _, DleAll_refl _, el, ?_⟩ | refine Exists.intro false ?_ | (refine And.intro ?_ ?_; focus (simp; done)) | fail)
              all_goals (conv => whnf)
              · rw [Bool.and_eq_true, decide_eq_true_eq, List.length_map] at h
                refine ⟨q + 1, ⟨by omega, fun j hj => ?_⟩, by simp only []; omega, ?_⟩
                · rcases Nat.lt_succ_iff_lt_or_eq.1 hj with hj | rfl
                  · exact hall j hj
                  · rw [hoq, hlq]
                    exact h.2
                · conv => whnf
                  exact ⟨⟨.refl, .refl, .refl, .refl, .refl, dle_int (wrap_succ (by omega)), trivial⟩, ⟨.refl, trivial⟩, by rfl⟩
              · have hat := hK (by
                  rw [Bool.and_eq_false_iff, decide_eq_false_iff_not, List.length_map] at h
                  rcases h with h | h
                  · exact .inl (by omega)
                  · exact .inr h)
                clear h hK el hgq hall
                have hql : q ≤ (O.map tokE).length := by rw [List.length_map]; exact hq
                repeat' ((conv => whnf); first | refine And.intro (fun h => h) ?_ | refine dcond_t (by assumption) ?_ | refine dcond_f (by assumption) ?_ | (refine dcond_intro ?_ ?_ <;> intro h) | exact .refl | refine And.intro (by kernel_rfl) ?_ | refine And.intro ⟨fun h => h, fun h => h⟩ ?_ | refine ⟨0, q, And.intro ⟨rfl, ⟨_, rfl⟩, Nat.zero_le _, hql⟩ ?_⟩ | refine ⟨q, And.intro ⟨⟨_, rfl⟩, hql⟩ ?_⟩ | refine And.intro (fitsT (by simp <;> omega)) ?_ | refine Exists.intro false ?_ | (refine And.intro ?_ ?_; focus (simp; done)) | fail)
                all_goals (conv => whnf)
                refine ⟨k + 1, hk8, by simp only []; omega, ?_⟩
                conv => whnf
                refine ⟨⟨.refl, dle_lst ?_, .refl, dle_int (wrap_succ (by omega)), trivial⟩, trivial, by rfl⟩
                rw [hnx, insT, hat, List.map_append, List.map_append, List.map_take, List.map_drop]
                rfl
          · have hk8 : k = 8 := by
              simp at h
              omega
            subst hk8
            rw [hM8, ← htk]
            clear h
            try (conv => whnf)
            refine ⟨i + 1, hlt, by simp only []; omega, ?_⟩
            conv => whnf
            exact ⟨⟨.refl, .refl, dle_int (wrap_succ (by omega)), trivial⟩, trivial, by rfl⟩
      · have : i = ms.length := by
          simp at h
          omega
        subst this
        rw [List.take_length]
        repeat' ((conv => whnf); first | refine And.intro (fun h => h) ?_ | refine dcond_t (by assumption) ?_ | refine dcond_f (by assumption) ?_ | (refine dcond_intro ?_ ?_ <;> intro h) | exact .refl | refine And.intro (by kernel_rfl) ?_ | refine And.intro ⟨fun h => h, fun h => h⟩ ?_ | refine Exists.intro false ?_ | (refine And.intro ?_ ?_; focus (simp; done)) | fail)
theorem c_r13_Owners (ms : List Int) (hl : ms.length ≤ maxLen) (key : Int) : Ret Try.prog 54 [.lst 1 (ms.map intE) false, u64 key, i64 1] (.lst 1 ((bif decide (((tableR ms).length : Int) = 0) then [] else [ownerR ms key]).map intE) false) := by
  have e1 := c_r13_Table ms hl
  have hlen := table_len ms
  have ho : ownerR ms key = bif decide (((tableR ms).length : Int) = 0) then 0 else ((tableR ms).getD (firstR (tableR ms) key) tok0).mem := rfl
  generalize ownerR ms key = ow at *
  generalize tableR ms = T at *
  have hfi := fun {i : Nat} => first_at (t := T) (key := key) (i := i)
  have hfn := first_none (t := T) (key := key)
  have hge : ∀ i, geAt T key i = decide (key ≤ (T.getD i tok0).pos) := fun i => rfl
  generalize firstR T key = fr at *
  refine ret_of_body (fn := Try.f54) (c := Try.f54.body.getD .skip) hm hT (by kernel_rfl) Try.func54 (by kernel_rfl) (by kernel_rfl) (by kernel_rfl) (by kernel_rfl) ?_
  repeat' ((conv => whnf); first | refine And.intro (fun h => h) ?_ | refine dcond_t (by assumption) ?_ | refine dcond_f (by assumption) ?_ | (refine dcond_intro ?_ ?_ <;> intro h) | exact .refl | refine And.intro (by kernel_rfl) ?_ | refine And.intro ⟨fun h => h, fun h => h⟩ ?_ | refine .inl ⟨_, _, DleAll_refl _, e1, ?_⟩ | refine ⟨_, _, DleAll_refl _, fun _ => e1, ?_⟩ | refine ⟨_, _, DleAll_refl _, e1, ?_⟩ | refine Exists.intro false ?_ | (refine And.intro ?_ ?_; focus (simp; done)) | fail)
  all_goals (conv => whnf)
  refine ⟨Nat, fun q => ⟨[(1, u64 key), (2, i64 1), (7, .lst 3 (T.map tokE) false), (8, i64 q)], []⟩, fun q => q ≤ T.length ∧ ∀ j, j < q → geAt T key j = false, fun q => T.length - q, [], ⟨0, ⟨Nat.zero_le _, by omega⟩, ?_⟩, ?_⟩
  · conv => whnf
    exact ⟨⟨.refl, .refl, .refl, .refl, trivial⟩, trivial, by rfl⟩
  · intro q ⟨hq, hall⟩
    have hgq : decide ((q : Int) < ((T.map tokE).length : Int)) = true → (T.map tokE)[q]? = some (tokE (T.getD q tok0)) := fun h => by
      have h := of_decide_eq_true h
      rw [List.length_map] at h
      have : q < T.length := by omega
      simp [this]
    repeat' ((conv => whnf); first | refine And.intro (fun h => h) ?_ | refine dcond_t (by assumption) ?_ | refine dcond_f (by assumption) ?_ | (refine dcond_intro ?_ ?_ <;> intro h) | exact .refl | refine And.intro (by kernel_rfl) ?_ | refine And.intro ⟨fun h => h, fun h => h⟩ ?_ | refine ⟨q, tokE (T.getD q tok0), And.intro ⟨⟨fun h => h, fun h => h⟩, fun hg => ⟨rfl, hgq hg⟩⟩ ?_⟩ | refine ⟨q, tokE (T.getD q tok0), And.intro ⟨fun h => h, fun hg => ⟨rfl, hgq hg⟩⟩ ?_⟩ | refine Exists.intro false ?_ | (refine And.intro ?_ ?_; focus (simp; done)) | fail)
    all_goals (conv => whnf)
    · rw [Bool.and_eq_true, decide_eq_true_eq, decide_eq_true_eq, List.length_map] at h
      refine ⟨q + 1, ⟨by omega, fun j hj => ?_⟩, by simp only []; omega, ?_⟩
      · rcases Nat.lt_succ_iff_lt_or_eq.1 hj with hj | rfl
        · exact hall j hj
        · rw [hge]
          exact decide_eq_false (by omega)
      · conv => whnf
        exact ⟨⟨.refl, .refl, .refl, dle_int (wrap_succ (by omega)), trivial⟩, trivial, by rfl⟩
    · have how : 0 < T.length → ow = (T.getD (q % T.length) tok0).mem := fun h0 => by
        rw [decide_eq_false (show ¬ ((T.length : Int) = 0) by omega), cond_false] at ho
        rw [ho]
        rw [Bool.and_eq_false_iff, decide_eq_false_iff_not, decide_eq_false_iff_not, List.length_map] at h
        rcases Nat.lt_or_eq_of_le hq with h1 | h1
        · have hf := hfi h1 (by rw [hge]; exact decide_eq_true (by omega)) hall
          rw [hf, Nat.mod_eq_of_lt h1]
        · subst h1
          rw [hfn hall, Nat.mod_self]
      clear h hfi hfn hge hgq hall ho
      refine ⟨Nat, fun i => ⟨[(2, i64 1), (7, .lst 3 (T.map tokE) false), (8, i64 q), (9, .own 0), (10, i64 i)], [.row 3 1 ((if i = 0 then ([] : List Int) else [ow]).map intE)]⟩, fun i => i ≤ 1 ∧ i ≤ T.length, fun i => 1 - i, [.slot 9 3 1], ⟨0, ⟨by omega, by omega⟩, ?_⟩, ?_⟩
      · conv => whnf
        exact ⟨⟨.refl, .refl, .refl, .refl, .refl, trivial⟩, ⟨.refl, trivial⟩, by rfl⟩
      · intro i ⟨hi1, hi⟩
        rcases Nat.lt_or_eq_of_le hi1 with h0 | h0
        · have h0 : i = 0 := by omega
          subst h0
          repeat' ((conv => whnf); first | refine And.intro (fun h => h) ?_ | refine dcond_t (by assumption) ?_ | refine dcond_f (by assumption) ?_ | (refine dcond_intro ?_ ?_ <;> intro h) | exact .refl | refine And.intro (by kernel_rfl) ?_ | refine And.intro ⟨fun h => h, fun h => h⟩ ?_ | refine Exists.intro false ?_ | (refine And.intro ?_ ?_; focus (simp; done)) | fail)
          · have hT0 : 0 < T.length := by
              rw [Bool.and_eq_true, decide_eq_true_eq, List.length_map] at h
              omega
            clear h
            have how := how hT0
            have hr : q % T.length < T.length := Nat.mod_lt _ hT0
            have hne : ((T.map tokE).length : Int) ≠ 0 := by
              rw [List.length_map]; omega
            have hix : Int.tmod (IntKind.i64.wrap ((q : Int) + ((0 : Nat) : Int))) ((T.map tokE).length : Int) = ((q % T.length : Nat) : Int) := by
              rw [wrap_i64 (by omega) (by omega), List.length_map]
              rfl
            have hgg : (T.map tokE)[q % T.length]? = some (tokE (T.getD (q % T.length) tok0)) := by simp [hr]
            have ec := c_ref3_Contains [] (by simp) (T.getD (q % T.length) tok0).mem
            rw [show inB [] (T.getD (q % T.length) tok0).mem = false from rfl] at ec
            generalize T.getD (q % T.length) tok0 = tq at *
            have hfI : ∀ n, n ≤ 2000000 → fitsIn tt 3 n := fun n h => by
              have e : (tinfo tt 3).bytes = 8 := by kernel_rfl
              refine ⟨?_, ?_⟩
              · rw [e]; omega
              · simp only [maxLen]; omega
            repeat' ((conv => whnf); first | refine And.intro (fun h => h) ?_ | refine dcond_t (by assumption) ?_ | refine dcond_f (by assumption) ?_ | (refine dcond_intro ?_ ?_ <;> intro h) | exact .refl | refine And.intro (by kernel_rfl) ?_ | refine And.intro ⟨fun h => h, fun h => h⟩ ?_ | refine And.intro hne ?_ | refine ⟨q % T.length, _, And.intro ⟨hix, hgg⟩ ?_⟩ | refine .inl ⟨_, _, DleAll_refl _, ec, ?_⟩ | refine ⟨_, _, DleAll_refl _, fun _ => ec, ?_⟩ | refine ⟨_, _, DleAll_refl _, ec, ?_⟩ | refine And.intro (hfI _ (by simp <;> omega)) ?_ | refine Exists.intro false ?_ | (refine And.intro ?_ ?_; focus (simp; done)) | fail)
            all_goals (conv => whnf)
            refine ⟨1, ⟨by omega, by omega⟩, by simp only []; omega, ?_⟩
            conv => whnf
            refine ⟨⟨.refl, .refl, .refl, .refl, .refl, trivial⟩, ⟨ole_row ?_, trivial⟩, by rfl⟩
            rw [how]
            rfl
          · have hT : T.length = 0 := by
              rw [Bool.and_eq_false_iff, decide_eq_false_iff_not, List.length_map] at h
              rcases h with h | h
              · omega
              · simp at h
            repeat' ((conv => whnf); first | refine And.intro (fun h => h) ?_ | refine dcond_t (by assumption) ?_ | refine dcond_f (by assumption) ?_ | (refine dcond_intro ?_ ?_ <;> intro h) | exact .refl | refine And.intro (by kernel_rfl) ?_ | refine And.intro ⟨fun h => h, fun h => h⟩ ?_ | refine Exists.intro false ?_ | (refine And.intro ?_ ?_; focus (simp; done)) | fail)
            all_goals (conv => whnf)
            refine dle_lst ?_
            rw [hT]
            rfl
        · subst h0
          have hT : decide ((T.length : Int) = 0) = false := decide_eq_false (by omega)
          rw [hT]
          repeat' ((conv => whnf); first | refine And.intro (fun h => h) ?_ | refine dcond_t (by assumption) ?_ | refine dcond_f (by assumption) ?_ | (refine dcond_intro ?_ ?_ <;> intro h) | exact .refl | refine And.intro (by kernel_rfl) ?_ | refine And.intro ⟨fun h => h, fun h => h⟩ ?_ | refine Exists.intro false ?_ | (refine And.intro ?_ ?_; focus (simp; done)) | fail)
          exfalso
          simp at h
theorem c_r13_Owner (ms : List Int) (hl : ms.length ≤ maxLen) (key : Int) : Ret Try.prog 47 [.lst 1 (ms.map intE) false, u64 key] (i64 (ownerR ms key)) := by
  have e1 := c_r13_Owners ms hl key
  have ho : ownerR ms key = bif decide (((tableR ms).length : Int) = 0) then 0 else ((tableR ms).getD (firstR (tableR ms) key) tok0).mem := rfl
  generalize ownerR ms key = ow at *
  cases hTz : decide (((tableR ms).length : Int) = 0)
  · rw [hTz, cond_false] at e1
    have hg : (([ow] : List Int).map intE)[0]? = some (intE ow) := rfl
    refine ret_of_body (fn := Try.f47) (c := Try.f47.body.getD .skip) hm hT (by kernel_rfl) Try.func47 (by kernel_rfl) (by kernel_rfl) (by kernel_rfl) (by kernel_rfl) ?_
    repeat' ((conv => whnf); first | refine And.intro (fun h => h) ?_ | refine dcond_t (by assumption) ?_ | refine dcond_f (by assumption) ?_ | (refine dcond_intro ?_ ?_ <;> intro h) | exact .refl | refine And.intro (by kernel_rfl) ?_ | refine And.intro ⟨fun h => h, fun h => h⟩ ?_ | refine .inl ⟨_, _, DleAll_refl _, e1, ?_⟩ | refine ⟨_, _, DleAll_refl _, fun _ => e1, ?_⟩ | refine ⟨_, _, DleAll_refl _, e1, ?_⟩ | refine ⟨0, intE ow, And.intro ⟨rfl, hg⟩ ?_⟩ | refine Exists.intro false ?_ | (refine And.intro ?_ ?_; focus (simp; done)) | fail)
  · rw [hTz, cond_true] at e1
    rw [hTz, cond_true] at ho
    subst ho
    refine ret_of_body (fn := Try.f47) (c := Try.f47.body.getD .skip) hm hT (by kernel_rfl) Try.func47 (by kernel_rfl) (by kernel_rfl) (by kernel_rfl) (by kernel_rfl) ?_
    repeat' ((conv => whnf); first | refine And.intro (fun h => h) ?_ | refine dcond_t (by assumption) ?_ | refine dcond_f (by assumption) ?_ | (refine dcond_intro ?_ ?_ <;> intro h) | exact .refl | refine And.intro (by kernel_rfl) ?_ | refine And.intro ⟨fun h => h, fun h => h⟩ ?_ | refine .inl ⟨_, _, DleAll_refl _, e1, ?_⟩ | refine ⟨_, _, DleAll_refl _, fun _ => e1, ?_⟩ | refine ⟨_, _, DleAll_refl _, e1, ?_⟩ | refine Exists.intro false ?_ | (refine And.intro ?_ ?_; focus (simp; done)) | fail)
theorem c_r13_Home (v : View) (hv : v.mem.length ≤ maxLen) (r : Ref) (h1 : r.ty.size ≤ 1000000) (h2 : r.key.size ≤ 1000000) : Ret Try.prog 39 [.agg (viewE v), .agg (refE r)] (i64 (homeR v r)) := by
  have e1 := c_ref3_Valid v hv
  have e2 := c_r2_Actor r h1 h2
  have e3 := c_r13_Owner v.mem hv (actH r)
  have hd : homeR v r = bif !viewB v then 0 else ownerR v.mem (actH r) := rfl
  generalize ownerR v.mem (actH r) = ow at *
  generalize homeR v r = res at *
  generalize actH r = ah at *
  generalize viewB v = vb at *
  refine ret_of_body (fn := Try.f39) (c := Try.f39.body.getD .skip) hm hT (by kernel_rfl) Try.func39 (by kernel_rfl) (by kernel_rfl) (by kernel_rfl) (by kernel_rfl) ?_
  repeat' ((conv => whnf); first | refine And.intro (fun h => h) ?_ | refine dcond_t (by assumption) ?_ | refine dcond_f (by assumption) ?_ | (refine dcond_intro ?_ ?_ <;> intro h) | exact .refl | refine And.intro (by kernel_rfl) ?_ | refine And.intro ⟨fun h => h, fun h => h⟩ ?_ | refine .inl ⟨_, _, DleAll_refl _, e1, ?_⟩ | refine ⟨_, _, DleAll_refl _, fun _ => e1, ?_⟩ | refine ⟨_, _, DleAll_refl _, e1, ?_⟩ | refine .inl ⟨_, _, DleAll_refl _, e2, ?_⟩ | refine ⟨_, _, DleAll_refl _, fun _ => e2, ?_⟩ | refine ⟨_, _, DleAll_refl _, e2, ?_⟩ | refine .inl ⟨_, _, DleAll_refl _, e3, ?_⟩ | refine ⟨_, _, DleAll_refl _, fun _ => e3, ?_⟩ | refine ⟨_, _, DleAll_refl _, e3, ?_⟩ | refine Exists.intro false ?_ | (refine And.intro ?_ ?_; focus (simp; done)) | fail)
  all_goals (conv => whnf)
  · rw [hd, h]
    exact .refl
  · rw [hd, h]
    exact .refl
end Go.Proofs.Ythdpjinchanceaa

set_option linter.unusedSimpArgs false
set_option linter.unusedVariables false
set_option maxRecDepth 100000
namespace Go.Proofs.Ythdpjinchanceaa
open Go.Lift
/-! reference 14 -/
theorem c_r14_ValidRef (r : Ref) : Ret Try.prog 36 [.agg (refE r)] (.v (.bool (refB r))) := by
  refine ret_of_body (fn := Try.f36) (c := Try.f36.body.getD .skip) hm hT (by kernel_rfl) Try.func36 (by kernel_rfl) (by kernel_rfl) (by kernel_rfl) (by kernel_rfl) ?_
  repeat' ((conv => whnf); first | refine And.intro (fun h => h) ?_ | refine dcond_t (by assumption) ?_ | refine dcond_f (by assumption) ?_ | (refine dcond_intro ?_ ?_ <;> intro h) | exact .refl | refine And.intro (by kernel_rfl) ?_ | refine And.intro ⟨fun h => h, fun h => h⟩ ?_ | refine Exists.intro false ?_ | (refine And.intro ?_ ?_; focus (simp; done)) | fail)
theorem c_r14_Less (a b : Ref) : Ret Try.prog 44 [.agg (refE a), .agg (refE b)] (.v (.bool (lessB a b))) := by
  refine ret_of_body (fn := Try.f44) (c := Try.f44.body.getD .skip) hm hT (by kernel_rfl) Try.func44 (by kernel_rfl) (by kernel_rfl) (by kernel_rfl) (by kernel_rfl) ?_
  repeat' ((conv => whnf); first | refine And.intro (fun h => h) ?_ | refine dcond_t (by assumption) ?_ | refine dcond_f (by assumption) ?_ | (refine dcond_intro ?_ ?_ <;> intro h) | exact .refl | refine And.intro (by kernel_rfl) ?_ | refine And.intro ⟨fun h => h, fun h => h⟩ ?_ | refine Exists.intro false ?_ | (refine And.intro ?_ ?_; focus (simp; done)) | fail)
theorem rec_ref (x : Rec) : recOk x = bif !refB x.ref || decide (x.ep < 1) || decide (x.ep > 1099511627776) then false else bif decide (x.mem = 0) then decide (x.tgt = 0) else (decide (1 ≤ x.mem) && decide (x.mem ≤ 1000)) && (decide (x.tgt = 0) || ((decide (1 ≤ x.tgt) && decide (x.tgt ≤ 1000)) && !decide (x.tgt = x.mem))) := by
  unfold recOk numB identB
  cases refB x.ref
  · rfl
  · by_cases h1 : x.ep < 1
    · rw [decide_eq_true h1, decide_eq_false (show ¬ 1 ≤ x.ep by omega)]
      rfl
    · by_cases h2 : x.ep > 1099511627776
      · rw [decide_eq_false h1, decide_eq_true h2, decide_eq_false (show ¬ x.ep ≤ 1099511627776 by omega)]
        simp
      · rw [decide_eq_false h1, decide_eq_false h2, decide_eq_true (show 1 ≤ x.ep by omega), decide_eq_true (show x.ep ≤ 1099511627776 by omega)]
        simp only [Bool.not_true, Bool.or_self, cond_false, Bool.true_and]
        cases decide (x.mem = 0) <;> cases decide (x.tgt = 0) <;> cases (decide (1 ≤ x.mem) && decide (x.mem ≤ 1000)) <;> cases (decide (1 ≤ x.tgt) && decide (x.tgt ≤ 1000)) <;> cases decide (x.tgt = x.mem) <;> rfl
theorem c_r14_ValidRecord (x : Rec) : Ret Try.prog 43 [.agg (recE x)] (.v (.bool (recOk x))) := by
  have e1 := c_r14_ValidRef x.ref
  have e2 := c_ref3_IsID x.mem
  have e3 := c_ref3_IsID x.tgt
  rw [rec_ref]
  generalize refB x.ref = rb at *
  refine ret_of_body (fn := Try.f43) (c := Try.f43.body.getD .skip) hm hT (by kernel_rfl) Try.func43 (by kernel_rfl) (by kernel_rfl) (by kernel_rfl) (by kernel_rfl) ?_
  repeat' ((conv => whnf); first | refine And.intro (fun h => h) ?_ | refine dcond_t (by assumption) ?_ | refine dcond_f (by assumption) ?_ | (refine dcond_intro ?_ ?_ <;> intro h) | exact .refl | refine And.intro (by kernel_rfl) ?_ | refine And.intro ⟨fun h => h, fun h => h⟩ ?_ | refine .inl ⟨_, _, DleAll_refl _, e1, ?_⟩ | refine ⟨_, _, DleAll_refl _, fun _ => e1, ?_⟩ | refine ⟨_, _, DleAll_refl _, e1, ?_⟩ | refine .inl ⟨_, _, DleAll_refl _, e2, ?_⟩ | refine ⟨_, _, DleAll_refl _, fun _ => e2, ?_⟩ | refine ⟨_, _, DleAll_refl _, e2, ?_⟩ | refine .inl ⟨_, _, DleAll_refl _, e3, ?_⟩ | refine ⟨_, _, DleAll_refl _, fun _ => e3, ?_⟩ | refine ⟨_, _, DleAll_refl _, e3, ?_⟩ | refine Exists.intro false ?_ | (refine And.intro ?_ ?_; focus (simp; done)) | fail)
  all_goals (conv => whnf)
  · rw [h]
    exact .refl
  · rename_i h0
    rw [h0, h]
    exact .refl
  · rename_i h0
    rw [h0, h]
    exact .refl
theorem c_r14_Valid (d : List Rec) (hl : d.length ≤ maxLen) : Ret Try.prog 35 [.lst 5 (d.map recE) false] (.v (.bool (validB d))) := by
  have hl' : d.length ≤ 9223372036854775807 := hl
  have hd : validB d = (!decide (200 < (d.length : Int)) && allB (okAtR d) d.length) := rfl
  generalize validB d = res at *
  refine ret_of_body (fn := Try.f35) (c := Try.f35.body.getD .skip) hm hT (by kernel_rfl) Try.func35 (by kernel_rfl) (by kernel_rfl) (by kernel_rfl) (by kernel_rfl) ?_
  repeat' ((conv => whnf); first | refine And.intro (fun h => h) ?_ | refine dcond_t (by assumption) ?_ | refine dcond_f (by assumption) ?_ | (refine dcond_intro ?_ ?_ <;> intro h) | exact .refl | refine And.intro (by kernel_rfl) ?_ | refine And.intro ⟨fun h => h, fun h => h⟩ ?_ | refine Exists.intro false ?_ | (refine And.intro ?_ ?_; focus (simp; done)) | fail)
  all_goals (conv => whnf)
  · rw [List.length_map] at h
    have h : decide (200 < (d.length : Int)) = true := h
    rw [hd, h]
    exact .refl
  · rw [List.length_map] at h
    have h : decide (200 < (d.length : Int)) = false := h
    rw [h, Bool.not_false, Bool.true_and] at hd
    clear h
    subst hd
    refine ⟨Nat, fun i => ⟨[(0, .lst 5 (d.map recE) false), (3, i64 i)], []⟩, fun i => i ≤ d.length ∧ ∀ j, j < i → okAtR d j = true, fun i => d.length - i, [], ⟨0, ⟨Nat.zero_le _, by omega⟩, ?_⟩, ?_⟩
    · conv => whnf
      exact ⟨⟨.refl, .refl, trivial⟩, trivial, by rfl⟩
    · intro i ⟨hi, hall⟩
      repeat' ((conv => whnf); first | refine And.intro (fun h => h) ?_ | refine dcond_t (by assumption) ?_ | refine dcond_f (by assumption) ?_ | (refine dcond_intro ?_ ?_ <;> intro h) | exact .refl | refine And.intro (by kernel_rfl) ?_ | refine And.intro ⟨fun h => h, fun h => h⟩ ?_ | refine Exists.intro false ?_ | (refine And.intro ?_ ?_; focus (simp; done)) | fail)
      · have hlt : i < d.length := by simpa using h
        clear h
        have hg : d.getD i zeroR = d[i] := by simp [hlt]
        have hok : okAtR d i = (recOk d[i] && !(decide (0 < (i : Int)) && !lessB (d.getD (i - 1) zeroR).ref d[i].ref)) := by
          unfold okAtR
          rw [hg]
        have e4 := c_r14_ValidRecord d[i]
        have e5 := c_r14_Less (d.getD (i - 1) zeroR).ref d[i].ref
        have hix : ∀ c : Bool, (c && decide ((0 : Int) < (i : Int))) = true → IntKind.i64.wrap ((i : Int) - 1) = ((i - 1 : Nat) : Int) ∧ (d.map recE)[i - 1]? = some (recE (d.getD (i - 1) zeroR)) := fun c h => by
          rw [Bool.and_eq_true, decide_eq_true_eq] at h
          have : i - 1 < d.length := by omega
          refine ⟨by rw [wrap_i64 (by omega) (by omega)]; omega, ?_⟩
          simp [this]
        generalize recOk d[i] = va at e4 hok
        generalize lessB (d.getD (i - 1) zeroR).ref d[i].ref = lb at e5 hok
        generalize d.getD (i - 1) zeroR = lp at e5 hix
        repeat' ((conv => whnf); first | refine And.intro (fun h => h) ?_ | refine dcond_t (by assumption) ?_ | refine dcond_f (by assumption) ?_ | (refine dcond_intro ?_ ?_ <;> intro h) | exact .refl | refine And.intro (by kernel_rfl) ?_ | refine And.intro ⟨fun h => h, fun h => h⟩ ?_ | refine ⟨_, _, And.intro ⟨rfl, get_map hlt⟩ ?_⟩ | refine .inl ⟨_, _, DleAll_refl _, e4, ?_⟩ | refine ⟨_, _, DleAll_refl _, fun _ => e4, ?_⟩ | refine ⟨_, _, DleAll_refl _, e4, ?_⟩ | refine ⟨i - 1, recE lp, And.intro ⟨⟨fun h => h, fun h => h⟩, fun h => hix _ h⟩ ?_⟩ | refine ⟨i, recE (d[i]'hlt), And.intro ⟨⟨fun h => h, fun h => h⟩, fun _ => ⟨rfl, get_map hlt⟩⟩ ?_⟩ | refine .inl ⟨_, _, DleAll_refl _, e5, ?_⟩ | refine ⟨_, _, DleAll_refl _, fun _ => e5, ?_⟩ | refine ⟨_, _, DleAll_refl _, e5, ?_⟩ | refine Exists.intro false ?_ | (refine And.intro ?_ ?_; focus (simp; done)) | fail)
        all_goals (conv => whnf)
        · have hb : okAtR d i = !(!va || (decide ((0 : Int) < (i : Int)) && !lb)) := by
            rw [hok, Bool.not_or, Bool.not_not]
          rw [allB_false hlt (by rw [hb, h]; rfl)]
          exact .refl
        · have hb : okAtR d i = !(!va || (decide ((0 : Int) < (i : Int)) && !lb)) := by
            rw [hok, Bool.not_or, Bool.not_not]
          refine ⟨i + 1, ⟨hlt, fun j hj => ?_⟩, by simp only []; omega, ?_⟩
          · rcases Nat.lt_succ_iff_lt_or_eq.1 hj with hj | rfl
            · exact hall j hj
            · rw [hb, h]
              rfl
          · conv => whnf
            exact ⟨⟨.refl, dle_int (wrap_succ (by omega)), trivial⟩, trivial, by rfl⟩
      · have hge : ¬ i < d.length := by simpa using h
        conv => whnf
        refine dle_bool ?_
        rw [allB_true.2 (fun j hj => hall j (by omega))]
theorem c_r14_Find (d : List Rec) (hl : d.length ≤ 1000000) (r : Ref) : Ret Try.prog 37 [.lst 5 (d.map recE) false, .agg (refE r)] (.tup [.agg (recE (findR d r).1), .v (.bool (findR d r).2)]) := by
  refine ret_of_body (fn := Try.f37) (c := Try.f37.body.getD .skip) hm hT (by kernel_rfl) Try.func37 (by kernel_rfl) (by kernel_rfl) (by kernel_rfl) (by kernel_rfl) ?_
  repeat' ((conv => whnf); first | refine And.intro (fun h => h) ?_ | refine dcond_t (by assumption) ?_ | refine dcond_f (by assumption) ?_ | (refine dcond_intro ?_ ?_ <;> intro h) | exact .refl | refine And.intro (by kernel_rfl) ?_ | refine And.intro ⟨fun h => h, fun h => h⟩ ?_ | refine Exists.intro false ?_ | (refine And.intro ?_ ?_; focus (simp; done)) | fail)
  all_goals (conv => whnf)
  refine ⟨Nat, fun i => ⟨[(0, .lst 5 (d.map recE) false), (3, .lp 0 0), (4, .lp 1 0), (6, i64 i)], [.cells 27 (refE r), .cells 36 (recE zeroR)]⟩, fun i => i ≤ d.length ∧ ∀ j (h : j < d.length), j < i → refEq (d[j].ref) r = false, fun i => d.length - i, [], ⟨0, ⟨Nat.zero_le _, by omega⟩, ?_⟩, ?_⟩
  · conv => whnf
    exact ⟨⟨.refl, .refl, .refl, .refl, trivial⟩, ⟨.refl, .refl, trivial⟩, by rfl⟩
  · intro i ⟨hi, hall⟩
    repeat' ((conv => whnf); first | refine And.intro (fun h => h) ?_ | refine dcond_t (by assumption) ?_ | refine dcond_f (by assumption) ?_ | (refine dcond_intro ?_ ?_ <;> intro h) | exact .refl | refine And.intro (by kernel_rfl) ?_ | refine And.intro ⟨fun h => h, fun h => h⟩ ?_ | refine Exists.intro false ?_ | (refine And.intro ?_ ?_; focus (simp; done)) | fail)
    · have hlt : i < d.length := by simpa using h
      clear h
      have he : refEq d[i].ref r = (decide (d[i].ref.ty = r.ty) && (decide (d[i].ref.key = r.key) && true)) := rfl
      repeat' ((conv => whnf); first | refine And.intro (fun h => h) ?_ | refine dcond_t (by assumption) ?_ | refine dcond_f (by assumption) ?_ | (refine dcond_intro ?_ ?_ <;> intro h) | exact .refl | refine And.intro (by kernel_rfl) ?_ | refine And.intro ⟨fun h => h, fun h => h⟩ ?_ | refine ⟨_, _, And.intro ⟨rfl, get_map hlt⟩ ?_⟩ | refine Exists.intro false ?_ | (refine And.intro ?_ ?_; focus (simp; done)) | fail)
      all_goals (conv => whnf)
      · have hi1 : idxO d r = some i := List.findIdx?_eq_some_iff_getElem.2 ⟨hlt, he.trans h, fun j hj => by simp [hall j (by omega) hj]⟩
        have e1 : findR d r = (d[i], true) := by simp [findR, hi1, hlt]
        rw [e1]
        repeat' ((conv => whnf); first | refine And.intro (fun h => h) ?_ | refine dcond_t (by assumption) ?_ | refine dcond_f (by assumption) ?_ | (refine dcond_intro ?_ ?_ <;> intro h) | exact .refl | refine And.intro (by kernel_rfl) ?_ | refine And.intro ⟨fun h => h, fun h => h⟩ ?_ | refine ⟨_, _, And.intro ⟨rfl, get_map hlt⟩ ?_⟩ | refine Exists.intro false ?_ | (refine And.intro ?_ ?_; focus (simp; done)) | fail)
        try exact .refl
      · refine ⟨i + 1, ⟨hlt, fun j hj hji => ?_⟩, by simp only []; omega, ?_⟩
        · rcases Nat.lt_succ_iff_lt_or_eq.1 hji with hji | rfl
          · exact hall j hj hji
          · exact he.trans h
        · conv => whnf
          exact ⟨⟨.refl, .refl, .refl, dle_int (wrap_succ (by omega)), trivial⟩, ⟨.refl, .refl, trivial⟩, by rfl⟩
    · have hge : ¬ i < d.length := by simpa using h
      have hi1 : idxO d r = none := List.findIdx?_eq_none_iff.2 (fun x hx => by
        obtain ⟨j, hj, rfl⟩ := List.getElem_of_mem hx
        exact hall j hj (by omega))
      have e1 : findR d r = (zeroR, false) := by simp [findR, hi1, zeroR]
      rw [e1]
      conv => whnf
      exact .refl
end Go.Proofs.Ythdpjinchanceaa

set_option linter.unusedSimpArgs false
set_option linter.unusedVariables false
set_option maxRecDepth 100000
namespace Go.Proofs.Ythdpjinchanceaa
open Go.Lift
/-! DirFences -/
theorem fitsA14 {n : Nat} (h : n ≤ 2000000) : fitsIn tt 36 n := by
  have e : (tinfo tt 36).bytes = 56 := by kernel_rfl
  refine ⟨?_, ?_⟩
  · rw [e]; omega
  · simp only [maxLen]; omega
theorem c_r14_Reconcile (d : List Rec) (hl : d.length ≤ 1000000) (v : View) (hv : v.mem.length ≤ maxLen) : Ret Try.prog 19 [.lst 5 (d.map recE) false, .agg (viewE v)] (.lst 5 ((recoR d v).map recE) false) := by
  have e1 := c_r14_Valid d (by simp only [maxLen]; omega)
  have e2 := c_ref3_Valid v hv
  have hd : recoR d v = bif !validB d || !viewB v then [] else d.map (recFix v) := rfl
  generalize recoR d v = res at *
  generalize validB d = b1 at *
  generalize viewB v = b2 at *
  refine ret_of_body (fn := Try.f19) (c := Try.f19.body.getD .skip) hm hT (by kernel_rfl) Try.func19 (by kernel_rfl) (by kernel_rfl) (by kernel_rfl) (by kernel_rfl) ?_
  repeat' ((conv => whnf); first | refine And.intro (fun h => h) ?_ | refine dcond_t (by assumption) ?_ | refine dcond_f (by assumption) ?_ | (refine dcond_intro ?_ ?_ <;> intro h) | exact .refl | refine And.intro (by kernel_rfl) ?_ | refine And.intro ⟨fun h => h, fun h => h⟩ ?_ | refine .inl ⟨_, _, DleAll_refl _, e1, ?_⟩ | refine ⟨_, _, DleAll_refl _, fun _ => e1, ?_⟩ | refine ⟨_, _, DleAll_refl _, e1, ?_⟩ | refine .inl ⟨_, _, DleAll_refl _, e2, ?_⟩ | refine ⟨_, _, DleAll_refl _, fun _ => e2, ?_⟩ | refine ⟨_, _, DleAll_refl _, e2, ?_⟩ | refine Exists.intro false ?_ | (refine And.intro ?_ ?_; focus (simp; done)) | fail)
  all_goals (conv => whnf)
  · rw [hd, h]
    exact .nl
  · rw [h, cond_false] at hd
    clear h
    subst hd
    refine ⟨Nat, fun i => ⟨[(0, .lst 5 (d.map recE) false), (3, .lp 0 0), (5, .own 1), (6, i64 i)], [.cells 25 (viewE v), .row 36 5 (((d.take i).map (recFix v)).map recE)]⟩, fun i => i ≤ d.length, fun i => d.length - i, [.slot 5 36 5], ⟨0, Nat.zero_le _, ?_⟩, ?_⟩
    · conv => whnf
      exact ⟨⟨.refl, .refl, .refl, .refl, trivial⟩, ⟨.refl, .refl, trivial⟩, by rfl⟩
    · intro i hi
      repeat' ((conv => whnf); first | refine And.intro (fun h => h) ?_ | refine dcond_t (by assumption) ?_ | refine dcond_f (by assumption) ?_ | (refine dcond_intro ?_ ?_ <;> intro h) | exact .refl | refine And.intro (by kernel_rfl) ?_ | refine And.intro ⟨fun h => h, fun h => h⟩ ?_ | refine Exists.intro false ?_ | (refine And.intro ?_ ?_; focus (simp; done)) | fail)
      · have hlt : i < d.length := by simpa using h
        clear h
        have c1 := c_ref3_Contains v.mem hv d[i].mem
        have c2 := c_ref3_Contains v.mem hv d[i].tgt
        have c3 := c_ref3_Contains v.mem hv 0
        have hs : (d.take (i + 1)).map (recFix v) = (d.take i).map (recFix v) ++ [recFix v d[i]] := by
          rw [List.take_succ_eq_append_getElem hlt, List.map_append]
          rfl
        repeat' ((conv => whnf); first | refine And.intro (fun h => h) ?_ | refine dcond_t (by assumption) ?_ | refine dcond_f (by assumption) ?_ | (refine dcond_intro ?_ ?_ <;> intro h) | exact .refl | refine And.intro (by kernel_rfl) ?_ | refine And.intro ⟨fun h => h, fun h => h⟩ ?_ | refine ⟨_, _, And.intro ⟨rfl, get_map hlt⟩ ?_⟩ | refine .inl ⟨_, _, DleAll_refl _, c1, ?_⟩ | refine ⟨_, _, DleAll_refl _, fun _ => c1, ?_⟩ | refine ⟨_, _, DleAll_refl _, c1, ?_⟩ | refine .inl ⟨_, _, DleAll_refl _, c2, ?_⟩ | refine ⟨_, _, DleAll_refl _, fun _ => c2, ?_⟩ | refine ⟨_, _, DleAll_refl _, c2, ?_⟩ | refine .inl ⟨_, _, DleAll_refl _, c3, ?_⟩ | refine ⟨_, _, DleAll_refl _, fun _ => c3, ?_⟩ | refine ⟨_, _, DleAll_refl _, c3, ?_⟩ | refine And.intro (fitsA14 (by simp <;> omega)) ?_ | refine Exists.intro false ?_ | (refine And.intro ?_ ?_; focus (simp; done)) | fail)
        all_goals (conv => whnf)
        all_goals refine ⟨i + 1, hlt, by simp only []; omega, ?_⟩
        all_goals (conv => whnf)
        all_goals refine ⟨⟨.refl, .refl, .refl, dle_int (wrap_succ (by omega)), trivial⟩, ⟨.refl, ole_row ?_, trivial⟩, by rfl⟩
        all_goals rw [hs, List.map_append]
        all_goals congr 1
        · rename_i h1
          have h : (!inB v.mem 0) = true := h
          have hf : recFix v d[i] = ⟨d[i].ref, 0, d[i].ep, 0⟩ := by simp only [recFix, h1, h, cond_true]
          rw [hf]
          rfl
        · rename_i h1
          have h : (!inB v.mem 0) = false := h
          have hf : recFix v d[i] = ⟨d[i].ref, 0, d[i].ep, 0⟩ := by simp only [recFix, h1, h, cond_true, cond_false]
          rw [hf]
          rfl
        · rename_i h1
          have hf : recFix v d[i] = ⟨d[i].ref, d[i].mem, d[i].ep, 0⟩ := by simp only [recFix, h1, h, cond_true, cond_false]
          rw [hf]
          rfl
        · rename_i h1
          have hf : recFix v d[i] = d[i] := by simp only [recFix, h1, h, cond_false]
          rw [hf]
          rfl
      · have : i = d.length := by
          simp at h
          omega
        subst this
        rw [List.take_length]
        repeat' ((conv => whnf); first | refine And.intro (fun h => h) ?_ | refine dcond_t (by assumption) ?_ | refine dcond_f (by assumption) ?_ | (refine dcond_intro ?_ ?_ <;> intro h) | exact .refl | refine And.intro (by kernel_rfl) ?_ | refine And.intro ⟨fun h => h, fun h => h⟩ ?_ | refine Exists.intro false ?_ | (refine And.intro ?_ ?_; focus (simp; done)) | fail)
theorem find_no {d : List Rec} {r : Ref} (h : (findR d r).2 = false) : (findR d r).1.mem = 0 := by
  unfold findR at *
  cases hi : idxO d r with
  | none => rfl
  | some i =>
    rw [hi] at h
    cases h
theorem c_r14_Fence (d : List Rec) (hl : d.length ≤ 1000000) (r : Ref) (m ep : Int) : Ret Try.prog 20 [.lst 5 (d.map recE) false, .agg (refE r), i64 m, i64 ep] (i64 (fenceE d r m ep)) := by
  have e1 := c_r14_Valid d (by simp only [maxLen]; omega)
  have e2 := c_r14_ValidRef r
  have e3 := c_r14_Find d hl r
  have hd : fenceE d r m ep = bif !validB d || !refB r then 1
  else bif !(findR d r).2 || decide ((findR d r).1.mem = 0) then 6
  else bif !decide ((findR d r).1.mem = m) then 10
  else bif !decide ((findR d r).1.ep = ep) then 8
  else 0 := rfl
  have hno : (!(findR d r).2 || decide ((findR d r).1.mem = 0)) = decide ((findR d r).1.mem = 0) := by
    cases h : (findR d r).2
    · rw [find_no h]
      rfl
    · rfl
  rw [hno] at hd
  clear hno
  generalize fenceE d r m ep = res at *
  generalize validB d = b1 at *
  generalize refB r = b2 at *
  generalize findR d r = F at *
  obtain ⟨F1, F2⟩ := F
  simp only [] at e3 hd
  refine ret_of_body (fn := Try.f20) (c := Try.f20.body.getD .skip) hm hT (by kernel_rfl) Try.func20 (by kernel_rfl) (by kernel_rfl) (by kernel_rfl) (by kernel_rfl) ?_
  repeat' ((conv => whnf); first | refine And.intro (fun h => h) ?_ | refine dcond_t (by assumption) ?_ | refine dcond_f (by assumption) ?_ | (refine dcond_intro ?_ ?_ <;> intro h) | exact .refl | refine And.intro (by kernel_rfl) ?_ | refine And.intro ⟨fun h => h, fun h => h⟩ ?_ | refine .inl ⟨_, _, DleAll_refl _, e1, ?_⟩ | refine ⟨_, _, DleAll_refl _, fun _ => e1, ?_⟩ | refine ⟨_, _, DleAll_refl _, e1, ?_⟩ | refine .inl ⟨_, _, DleAll_refl _, e2, ?_⟩ | refine ⟨_, _, DleAll_refl _, fun _ => e2, ?_⟩ | refine ⟨_, _, DleAll_refl _, e2, ?_⟩ | refine .inl ⟨_, _, DleAll_refl _, e3, ?_⟩ | refine ⟨_, _, DleAll_refl _, fun _ => e3, ?_⟩ | refine ⟨_, _, DleAll_refl _, e3, ?_⟩ | refine Exists.intro false ?_ | (refine And.intro ?_ ?_; focus (simp; done)) | fail)
  all_goals (conv => whnf)
  all_goals simp only [*, cond_true, cond_false] at hd
  all_goals rw [hd]
  all_goals exact .refl
theorem c_directory_Placer (v : View) (hv : v.mem.length ≤ maxLen) (a : Ref) (h1 : a.ty.size ≤ 1000000) (h2 : a.key.size ≤ 1000000) (m : Int) : Ret Try.prog 21 [.agg (viewE v), .agg (refE a), i64 m] (.v (.bool ((viewB v && refB a) && decide (homeR v a = m)))) := by
  have e1 := c_view_Valid v hv
  have e2 : Ret Try.prog 31 [.agg (refE a)] (.v (.bool (refB a))) := c_directory_ValidRef a
  have e3 := c_ring_Home v hv a h1 h2
  generalize homeR v a = ho at *
  generalize viewB v = b1 at *
  generalize refB a = b2 at *
  refine ret_of_body (fn := Try.f21) (c := Try.f21.body.getD .skip) hm hT (by kernel_rfl) Try.func21 (by kernel_rfl) (by kernel_rfl) (by kernel_rfl) (by kernel_rfl) ?_
  repeat' ((conv => whnf); first | refine And.intro (fun h => h) ?_ | refine dcond_t (by assumption) ?_ | refine dcond_f (by assumption) ?_ | (refine dcond_intro ?_ ?_ <;> intro h) | exact .refl | refine And.intro (by kernel_rfl) ?_ | refine And.intro ⟨fun h => h, fun h => h⟩ ?_ | refine .inl ⟨_, _, DleAll_refl _, e1, ?_⟩ | refine ⟨_, _, DleAll_refl _, fun _ => e1, ?_⟩ | refine ⟨_, _, DleAll_refl _, e1, ?_⟩ | refine .inl ⟨_, _, DleAll_refl _, e2, ?_⟩ | refine ⟨_, _, DleAll_refl _, fun _ => e2, ?_⟩ | refine ⟨_, _, DleAll_refl _, e2, ?_⟩ | refine .inl ⟨_, _, DleAll_refl _, e3, ?_⟩ | refine ⟨_, _, DleAll_refl _, fun _ => e3, ?_⟩ | refine ⟨_, _, DleAll_refl _, e3, ?_⟩ | refine Exists.intro false ?_ | (refine And.intro ?_ ?_; focus (simp; done)) | fail)
theorem c_r14_Placer (v : View) (hv : v.mem.length ≤ maxLen) (a : Ref) (h1 : a.ty.size ≤ 1000000) (h2 : a.key.size ≤ 1000000) (m : Int) : Ret Try.prog 22 [.agg (viewE v), .agg (refE a), i64 m] (.v (.bool ((viewB v && refB a) && decide (homeR v a = m)))) := by
  have e1 := c_ref3_Valid v hv
  have e2 := c_r14_ValidRef a
  have e3 := c_r13_Home v hv a h1 h2
  generalize homeR v a = ho at *
  generalize viewB v = b1 at *
  generalize refB a = b2 at *
  refine ret_of_body (fn := Try.f22) (c := Try.f22.body.getD .skip) hm hT (by kernel_rfl) Try.func22 (by kernel_rfl) (by kernel_rfl) (by kernel_rfl) (by kernel_rfl) ?_
  repeat' ((conv => whnf); first | refine And.intro (fun h => h) ?_ | refine dcond_t (by assumption) ?_ | refine dcond_f (by assumption) ?_ | (refine dcond_intro ?_ ?_ <;> intro h) | exact .refl | refine And.intro (by kernel_rfl) ?_ | refine And.intro ⟨fun h => h, fun h => h⟩ ?_ | refine .inl ⟨_, _, DleAll_refl _, e1, ?_⟩ | refine ⟨_, _, DleAll_refl _, fun _ => e1, ?_⟩ | refine ⟨_, _, DleAll_refl _, e1, ?_⟩ | refine .inl ⟨_, _, DleAll_refl _, e2, ?_⟩ | refine ⟨_, _, DleAll_refl _, fun _ => e2, ?_⟩ | refine ⟨_, _, DleAll_refl _, e2, ?_⟩ | refine .inl ⟨_, _, DleAll_refl _, e3, ?_⟩ | refine ⟨_, _, DleAll_refl _, fun _ => e3, ?_⟩ | refine ⟨_, _, DleAll_refl _, e3, ?_⟩ | refine Exists.intro false ?_ | (refine And.intro ?_ ?_; focus (simp; done)) | fail)
theorem small14 {d : List Rec} (h : smallB d = true) : d.length ≤ 260 := by
  unfold smallB at h
  rw [Bool.and_eq_true, decide_eq_true_eq] at h
  omega
theorem reco_len (d : List Rec) (v : View) : (recoR d v).length ≤ d.length := by
  unfold recoR
  cases (!validB d || !viewB v)
  · simp
  · simp
theorem r6 (d : List Rec) (hd : d.length ≤ maxLen) (v : View) (hv : v.mem.length ≤ maxLen) (a : Ref) (m ep : Int) : Ret Try.prog 6 [.lst 5 (d.map recE) false, .agg (viewE v), .agg (refE a), i64 m, i64 ep] (.v (.bool true)) := by
  have e0 := c_law14_Small d hd
  have s1 := small14 (d := d)
  generalize smallB d = b1 at *
  refine ret_of_body (fn := Try.f6) (c := Try.f6.body.getD .skip) hm hT (by kernel_rfl) Try.func6 (by kernel_rfl) (by kernel_rfl) (by kernel_rfl) (by kernel_rfl) ?_
  repeat' ((conv => whnf); first | refine And.intro (fun h => h) ?_ | refine dcond_t (by assumption) ?_ | refine dcond_f (by assumption) ?_ | (refine dcond_intro ?_ ?_ <;> intro h) | exact .refl | refine And.intro (by kernel_rfl) ?_ | refine And.intro ⟨fun h => h, fun h => h⟩ ?_ | refine .inl ⟨_, _, DleAll_refl _, c_law14_awake, ?_⟩ | refine ⟨_, _, DleAll_refl _, fun _ => c_law14_awake, ?_⟩ | refine ⟨_, _, DleAll_refl _, c_law14_awake, ?_⟩ | refine .inl ⟨_, _, DleAll_refl _, e0, ?_⟩ | refine ⟨_, _, DleAll_refl _, fun _ => e0, ?_⟩ | refine ⟨_, _, DleAll_refl _, e0, ?_⟩ | refine Exists.intro false ?_ | (refine And.intro ?_ ?_; focus (simp; done)) | fail)
  simp only [Bool.or_eq_false_iff, Bool.not_eq_false', decide_eq_false_iff_not, List.length_map] at h
  obtain ⟨⟨⟨hb1, hm40⟩, ha1⟩, ha2⟩ := h
  have s1 := s1 hb1
  clear e0
  have e1 := c_directory_Reconcile d hd v hv
  have e2 := c_r14_Reconcile d (by omega) v hv
  have hrl := reco_len d v
  have e4 : Ret Try.prog 16 [.lst 5 (d.map recE) false, .agg (refE a), i64 m, i64 ep] (i64 (fenceE d a m ep)) := c_directory_Fence d hd a m ep
  have e5 := c_r14_Fence d (by omega) a m ep
  have e6 := c_directory_Placer v hv a (by omega) (by omega) m
  have e7 := c_r14_Placer v hv a (by omega) (by omega) m
  generalize recoR d v = R at *
  have e3 := c_ref14_Same R R (by simp only [maxLen]; omega)
  rw [same_refl] at e3
  obtain ⟨tr, htr⟩ : ∃ b : Bool, b = true := ⟨true, rfl⟩
  rw [← htr] at e3
  generalize fenceE d a m ep = fe at *
  generalize ((viewB v && refB a) && decide (homeR v a = m)) = pl at *
  repeat' ((conv => whnf); first | refine And.intro (fun h => h) ?_ | refine dcond_t (by assumption) ?_ | refine dcond_f (by assumption) ?_ | (refine dcond_intro ?_ ?_ <;> intro h) | exact .refl | refine And.intro (by kernel_rfl) ?_ | refine And.intro ⟨fun h => h, fun h => h⟩ ?_ | refine .inl ⟨_, _, DleAll_refl _, e1, ?_⟩ | refine ⟨_, _, DleAll_refl _, fun _ => e1, ?_⟩ | refine ⟨_, _, DleAll_refl _, e1, ?_⟩ | refine .inl ⟨_, _, DleAll_refl _, e2, ?_⟩ | refine ⟨_, _, DleAll_refl _, fun _ => e2, ?_⟩ | refine ⟨_, _, DleAll_refl _, e2, ?_⟩ | refine .inl ⟨_, _, DleAll_refl _, e3, ?_⟩ | refine ⟨_, _, DleAll_refl _, fun _ => e3, ?_⟩ | refine ⟨_, _, DleAll_refl _, e3, ?_⟩ | refine .inl ⟨_, _, DleAll_refl _, e4, ?_⟩ | refine ⟨_, _, DleAll_refl _, fun _ => e4, ?_⟩ | refine ⟨_, _, DleAll_refl _, e4, ?_⟩ | refine .inl ⟨_, _, DleAll_refl _, e5, ?_⟩ | refine ⟨_, _, DleAll_refl _, fun _ => e5, ?_⟩ | refine ⟨_, _, DleAll_refl _, e5, ?_⟩ | refine .inl ⟨_, _, DleAll_refl _, e6, ?_⟩ | refine ⟨_, _, DleAll_refl _, fun _ => e6, ?_⟩ | refine ⟨_, _, DleAll_refl _, e6, ?_⟩ | refine .inl ⟨_, _, DleAll_refl _, e7, ?_⟩ | refine ⟨_, _, DleAll_refl _, fun _ => e7, ?_⟩ | refine ⟨_, _, DleAll_refl _, e7, ?_⟩ | refine Exists.intro false ?_ | (refine And.intro ?_ ?_; focus (simp; done)) | fail)
  all_goals (conv => whnf)
  refine dle_bool ?_
  simp [htr]
theorem dat_ref {n : Nat} {r : List DV} (h : Dat tt (n + 2) 27 r) : ∃ x : Ref, r = refE x := by
  obtain ⟨_, _, rfl, ⟨s, rfl, _⟩, _, _, rfl, ⟨s2, rfl, _⟩, rfl⟩ := h
  exact ⟨⟨s, s2⟩, rfl⟩
theorem dat_rec {n : Nat} {r : List DV} (h : Dat tt (n + 3) 36 r) : ∃ x : Rec, r = recE x := by
  obtain ⟨_, _, rfl, hr, _, _, rfl, ⟨m, rfl, _⟩, _, _, rfl, ⟨e, rfl, _⟩, _, _, rfl, ⟨t, rfl, _⟩, rfl⟩ := h
  obtain ⟨x, rfl⟩ := dat_ref (n := n) hr
  exact ⟨⟨x, m, e, t⟩, rfl⟩
theorem dat_recs {n : Nat} {r : List DV} (h : Dat tt (n + 4) 22 r) : ∃ d : List Rec, r = [.lst 5 (d.map recE) false] ∧ d.length ≤ maxLen := by
  obtain ⟨es, rfl, hl, hes⟩ := h
  obtain ⟨d, rfl, _⟩ := list_data (f := recE) (Q := fun _ => True) (fun r hr => (dat_rec (n := n) (hes r hr)).imp fun _ e => ⟨e, trivial⟩)
  exact ⟨d, rfl, by simpa using hl⟩
theorem law6 (dvs : List DV) (h : DatAll tt 6 [22, 25, 27, 3, 3] dvs) : Ret Try.prog 6 dvs (.v (.bool true)) := by
  obtain ⟨a1, _, rfl, h1, a2, _, rfl, h2, a3, _, rfl, h3, _, _, rfl, ⟨m, rfl, _⟩, _, _, rfl, ⟨e, rfl, _⟩, rfl⟩ := h
  obtain ⟨d, rfl, hd⟩ := dat_recs (n := 2) h1
  obtain ⟨v, rfl, hv⟩ := dat_view (n := 3) h2
  obtain ⟨a, rfl⟩ := dat_ref (n := 4) h3
  exact r6 d hd v hv a m e
end Go.Proofs.Ythdpjinchanceaa
