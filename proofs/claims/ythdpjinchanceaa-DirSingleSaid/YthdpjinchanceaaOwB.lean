/- The laws of this seat, part OwB: contracts of the functions, plain laws. No conditions. -/
import Derived.Test.YthdpjinchanceaaOwA
set_option linter.unusedSimpArgs false
set_option linter.unusedVariables false
set_option maxRecDepth 100000
namespace Go.Proofs.Ythdpjinchanceaa
open Go.Lift
/-! actorgridref13 -/
theorem twk_eq {α : Type} {p : α → Bool} {d : α} : ∀ {l : List α} {k : Nat}, k ≤ l.length → (∀ j, j < k → p (l.getD j d) = true) → (k = l.length ∨ p (l.getD k d) = false) → (l.takeWhile p).length = k
  | [], k, h, _, _ => by
    have : k = 0 := by simpa using h
    subst this
    rfl
  | x :: t, 0, _, _, h2 => by
    have : p x = false := by
      rcases h2 with h2 | h2
      · simp at h2
      · simpa using h2
    rw [List.takeWhile_cons, this]
    rfl
  | x :: t, k + 1, h, h1, h2 => by
    have hx : p x = true := by simpa using h1 0 (by omega)
    have ih := twk_eq (p := p) (d := d) (l := t) (k := k) (by simpa using h) (fun j hj => by simpa using h1 (j + 1) (by omega)) (by simpa using h2)
    rw [List.takeWhile_cons, hx]
    simp [ih]
theorem twk_mem {α : Type} {p : α → Bool} {x : α} : ∀ {l : List α}, x ∈ l.takeWhile p → p x = true
  | [], h => by simp at h
  | y :: t, h => by
    rw [List.takeWhile_cons] at h
    split at h
    · rename_i hy
      rcases List.mem_cons.1 h with rfl | h
      · exact hy
      · exact twk_mem h
    · simp at h
theorem twk_at {α : Type} {p : α → Bool} : ∀ {l : List α} (h : (l.takeWhile p).length < l.length), p (l[(l.takeWhile p).length]) = false
  | [], h => by simp at h
  | x :: t, h => by
    cases hx : p x
    · simp [List.takeWhile_cons, hx]
    · have h2 : (t.takeWhile p).length < t.length := by
        simpa [List.takeWhile_cons, hx] using h
      have := twk_at (p := p) h2
      simpa [List.takeWhile_cons, hx] using this
def ltT (a b : Tok) : Bool := Go.Proofs.ltOf cmpTok a b
def insTK (o : List Tok) (t : Tok) : Nat := (o.takeWhile fun y => ltT y t).length
def insT (o : List Tok) (t : Tok) : List Tok := o.take (insTK o t) ++ [t] ++ o.drop (insTK o t)
def insTs (Q : List Tok) : List Tok := Q.foldl insT []
theorem insTs_snoc (Q : List Tok) (t : Tok) : insTs (Q ++ [t]) = insT (insTs Q) t := by
  unfold insTs
  rw [List.foldl_append]
  rfl
theorem insT_perm (o : List Tok) (t : Tok) : (insT o t).Perm (t :: o) := by
  unfold insT
  rw [List.append_assoc, List.singleton_append]
  refine List.perm_middle.trans ?_
  rw [List.take_append_drop]
theorem insT_len (o : List Tok) (t : Tok) : (insT o t).length = o.length + 1 := (insT_perm o t).length_eq
theorem ltT_irr (a : Tok) : ltT a a = false := tok_swo.irrefl a
theorem ltT_asym {a b : Tok} (h : ltT a b = true) : ltT b a = false := by
  cases h2 : ltT b a
  · rfl
  · have := tok_swo.trans _ _ _ h h2
    have h3 := ltT_irr a
    unfold ltT at h3
    rw [h3] at this
    cases this
theorem insT_sorted {o : List Tok} (t : Tok) (h : o.Pairwise fun x y => ltT y x = false) : (insT o t).Pairwise fun x y => ltT y x = false := by
  have hb : ∀ x ∈ o.take (insTK o t), ltT x t = true := fun x hx => by
    unfold insTK at hx
    rw [← List.prefix_iff_eq_take.1 (List.takeWhile_prefix _)] at hx
    exact twk_mem (p := fun y => ltT y t) hx
  have hat : ∀ h : insTK o t < o.length, ltT o[insTK o t] t = false := fun h => twk_at (p := fun y => ltT y t) h
  unfold insT
  generalize insTK o t = k at *
  have ha : ∀ y ∈ o.drop k, ltT y t = false := fun y hy => by
    obtain ⟨j, hj, rfl⟩ := List.getElem_of_mem hy
    rw [List.length_drop] at hj
    rw [List.getElem_drop]
    have hk : k < o.length := by omega
    rcases Nat.eq_zero_or_pos j with rfl | hj0
    · exact hat hk
    · have h1 := List.pairwise_iff_getElem.1 h k (k + j) hk (by omega) (by omega)
      exact tok_swo.ntrans _ _ _ h1 (hat hk)
  have h3 := List.take_append_drop k o
  generalize o.take k = A at *
  generalize o.drop k = B at *
  subst h3
  rw [List.append_assoc, List.singleton_append, List.pairwise_append]
  rw [List.pairwise_append] at h
  refine ⟨h.1, List.pairwise_cons.2 ⟨ha, h.2.1⟩, fun a ha' b hb' => ?_⟩
  rcases List.mem_cons.1 hb' with rfl | hb'
  · exact ltT_asym (hb a ha')
  · exact h.2.2 a ha' b hb'
theorem insTs_sorted (Q : List Tok) : (insTs Q).Pairwise (fun x y => ltT y x = false) ∧ (insTs Q).Perm Q := by
  have key : ∀ R : List Tok, (insTs R.reverse).Pairwise (fun x y => ltT y x = false) ∧ (insTs R.reverse).Perm R.reverse := fun R => by
    induction R with
    | nil => simp [insTs]
    | cons a R ih =>
      rw [List.reverse_cons, insTs_snoc]
      exact ⟨insT_sorted a ih.1, (insT_perm _ _).trans ((ih.2.cons a).trans (List.perm_append_singleton _ _).symm)⟩
  have := key Q.reverse
  rwa [List.reverse_reverse] at this
theorem insTs_len (Q : List Tok) : (insTs Q).length = Q.length := (insTs_sorted Q).2.length_eq
theorem insTs_eq {ms : List Int} (hv : idsB ms 16 = true) : insTs (toksOf ms) = tableR ms := by
  have ht : tableR ms = sortL cmpTok (toksOf ms) := by simp only [tableR, hv, cond_true]
  rw [ht]
  obtain ⟨h1, h2⟩ := insTs_sorted (toksOf ms)
  exact sorted_eq tok_anti (h2.trans (sortL_perm _ _).symm) h1 (sortL_sorted tok_swo _)
theorem ltT_eq (a b : Tok) : ltT a b = bif !decide (a.pos = b.pos) then decide (a.pos < b.pos) else decide (a.mem < b.mem) || (decide (a.mem = b.mem) && decide (a.ix < b.ix)) := by
  have h1 : ltT a b = true ↔ ltTok a b := ltTok_iff a b
  have h2 : (bif !decide (a.pos = b.pos) then decide (a.pos < b.pos) else decide (a.mem < b.mem) || (decide (a.mem = b.mem) && decide (a.ix < b.ix))) = true ↔ ltTok a b := by
    unfold ltTok
    by_cases h : a.pos = b.pos
    · rw [decide_eq_true h, Bool.not_true, cond_false, Bool.or_eq_true, Bool.and_eq_true, decide_eq_true_eq, decide_eq_true_eq, decide_eq_true_eq]
      constructor
      · intro h2
        exact .inr ⟨h, h2⟩
      · rintro (h2 | ⟨_, h2⟩)
        · omega
        · exact h2
    · rw [decide_eq_false h, Bool.not_false, cond_true, decide_eq_true_eq]
      constructor
      · exact .inl
      · rintro (h2 | ⟨h2, _⟩)
        · exact h2
        · exact absurd h2 h
  cases hx : ltT a b
  · cases hy : (bif !decide (a.pos = b.pos) then decide (a.pos < b.pos) else decide (a.mem < b.mem) || (decide (a.mem = b.mem) && decide (a.ix < b.ix)))
    · rfl
    · have := h1.2 (h2.1 hy)
      rw [hx] at this
      cases this
  · exact (h2.2 (h1.1 hx)).symm
theorem c_r13_less (a b : Tok) : Ret Try.prog 73 [.agg (tokE a), .agg (tokE b)] (.v (.bool (ltT a b))) := by
  rw [ltT_eq]
  refine ret_of_body (fn := Try.f73) (c := Try.f73.body.getD .skip) hm hT (by kernel_rfl) Try.func73 (by kernel_rfl) (by kernel_rfl) (by kernel_rfl) (by kernel_rfl) ?_
  repeat' ((conv => whnf); first | refine And.intro (fun h => h) ?_ | refine dcond_t (by assumption) ?_ | refine dcond_f (by assumption) ?_ | (refine dcond_intro ?_ ?_ <;> intro h) | exact .refl | refine And.intro (by kernel_rfl) ?_ | refine And.intro ⟨fun h => h, fun h => h⟩ ?_ | refine Exists.intro false ?_ | (refine And.intro ?_ ?_; focus (simp; done)) | fail)
  all_goals (conv => whnf)
  · rw [h]
    exact .refl
  · rw [h]
    exact .refl
set_option maxRecDepth 100000 in
theorem c_r13_Table (ms : List Int) (hl : ms.length ≤ maxLen) : Ret Try.prog 64 [.lst 1 (ms.map intE) false] (.lst 3 ((tableR ms).map tokE) false) := by
  have e1 := c_ref3_ValidMembers ms hl
  refine ret_of_body (fn := Try.f64) (c := Try.f64.body.getD .skip) hm hT (by kernel_rfl) Try.func64 (by kernel_rfl) (by kernel_rfl) (by kernel_rfl) (by kernel_rfl) ?_
  repeat' ((conv => whnf); first | refine And.intro (fun h => h) ?_ | refine dcond_t (by assumption) ?_ | refine dcond_f (by assumption) ?_ | (refine dcond_intro ?_ ?_ <;> intro h) | exact .refl | refine And.intro (by kernel_rfl) ?_ | refine And.intro ⟨fun h => h, fun h => h⟩ ?_ | refine .inl ⟨_, _, DleAll_refl _, e1, ?_⟩ | refine ⟨_, _, DleAll_refl _, fun _ => e1, ?_⟩ | refine ⟨_, _, DleAll_refl _, e1, ?_⟩ | refine Exists.intro false ?_ | (refine And.intro ?_ ?_; focus (simp; done)) | fail)
  all_goals (conv => whnf)
  · have h : idsB ms 16 = false := by simpa using h
    simp only [tableR, h, cond_false]
    exact .nl
  · have hv : idsB ms 16 = true := by simpa using h
    clear h
    have h16 := (ids_pw.1 hv).1
    rw [← insTs_eq hv]
    refine ⟨Nat, fun i => ⟨[(0, .lst 1 (ms.map intE) false), (3, .lst 3 ((insTs (toksOf (ms.take i))).map tokE) false), (4, i64 i)], []⟩, fun i => i ≤ ms.length, fun i => ms.length - i, [.shut 3], ⟨0, Nat.zero_le _, ?_⟩, ?_⟩
    · conv => whnf
      exact ⟨⟨.refl, .nl, .refl, trivial⟩, trivial, by rfl⟩
    · intro i hi
      repeat' ((conv => whnf); first | refine And.intro (fun h => h) ?_ | refine dcond_t (by assumption) ?_ | refine dcond_f (by assumption) ?_ | (refine dcond_intro ?_ ?_ <;> intro h) | exact .refl | refine And.intro (by kernel_rfl) ?_ | refine And.intro ⟨fun h => h, fun h => h⟩ ?_ | refine Exists.intro false ?_ | (refine And.intro ?_ ?_; focus (simp; done)) | fail)
      · have hlt : i < ms.length := by simpa using h
        clear h
        have htk := toks_take hlt
        have hTl : (toksOf (ms.take i)).length = 8 * i := by
          rw [toks_len, List.length_take]
          omega
        have hMt := fun k h => tokM_take ms[i] (i := k) h
        have hM8 : (tokM ms[i]).take 8 = tokM ms[i] := List.take_of_length_le (by simp [tokM])
        generalize toksOf (ms.take i) = T0 at *
        conv => whnf
        refine ⟨Nat, fun k => ⟨[(0, .lst 1 (ms.map intE) false), (3, .lst 3 ((insTs (T0 ++ (tokM ms[i]).take k)).map tokE) false), (4, i64 i), (5, i64 k)], []⟩, fun k => k ≤ 8, fun k => 8 - k, [.shut 3], ⟨0, Nat.zero_le _, ?_⟩, ?_⟩
        · conv => whnf
          exact ⟨⟨.refl, dle_lst (by rw [List.take_zero, List.append_nil]), .refl, .refl, trivial⟩, trivial, by rfl⟩
        · intro k hk
          have hol : (insTs (T0 ++ (tokM ms[i]).take k)).length ≤ 8 * i + 8 := by
            rw [insTs_len, List.length_append, List.length_take]
            omega
          repeat' ((conv => whnf); first | refine And.intro (fun h => h) ?_ | refine dcond_t (by assumption) ?_ | refine dcond_f (by assumption) ?_ | (refine dcond_intro ?_ ?_ <;> intro h) | exact .refl | refine And.intro (by kernel_rfl) ?_ | refine And.intro ⟨fun h => h, fun h => h⟩ ?_ | refine Exists.intro false ?_ | (refine And.intro ?_ ?_; focus (simp; done)) | fail)
          · have hk8 : k < 8 := by
              simp at h
              omega
            clear h
            have hnx : insTs (T0 ++ (tokM ms[i]).take (k + 1)) = insT (insTs (T0 ++ (tokM ms[i]).take k)) ⟨tokR ms[i] k, ms[i], k⟩ := by
              rw [hMt k hk8, ← List.append_assoc, insTs_snoc]
            generalize insTs (T0 ++ (tokM ms[i]).take k) = O at *
            have et := c_r2_Token ms[i] k
            repeat' ((conv => whnf); first | refine And.intro (fun h => h) ?_ | refine dcond_t (by assumption) ?_ | refine dcond_f (by assumption) ?_ | (refine dcond_intro ?_ ?_ <;> intro h) | exact .refl | refine And.intro (by kernel_rfl) ?_ | refine And.intro ⟨fun h => h, fun h => h⟩ ?_ | refine ⟨_, _, And.intro ⟨rfl, get_map hlt⟩ ?_⟩ | refine .inl ⟨_, _, DleAll_refl _, et, ?_⟩ | refine ⟨_, _, DleAll_refl _, fun _ => et, ?_⟩ | refine ⟨_, _, DleAll_refl _, et, ?_⟩ | refine Exists.intro false ?_ | (refine And.intro ?_ ?_; focus (simp; done)) | fail)
            all_goals (conv => whnf)
            generalize htd : (⟨tokR ms[i] k, ms[i], k⟩ : Tok) = t at *
            have hte : tokE t = [u64 (tokR ms[i] k), i64 ms[i], i64 k] := by rw [← htd]; rfl
            refine ⟨Nat, fun q => ⟨[(0, .lst 1 (ms.map intE) false), (3, .lst 3 (O.map tokE) false), (4, i64 i), (5, i64 k), (6, .lp 0 0), (7, i64 q)], [.cells 76 (tokE t)]⟩, fun q => q ≤ O.length ∧ ∀ j, j < q → ltT (O.getD j tok0) t = true, fun q => O.length - q, [], ⟨0, ⟨Nat.zero_le _, by omega⟩, ?_⟩, ?_⟩
            · conv => whnf
              refine ⟨⟨.refl, .refl, .refl, .refl, .refl, .refl, trivial⟩, ⟨?_, trivial⟩, by rfl⟩
              rw [hte]
              exact .refl
            · intro q ⟨hq, hall⟩
              have hgq : decide ((q : Int) < ((O.map tokE).length : Int)) = true → (O.map tokE)[q]? = some (tokE (O.getD q tok0)) := fun h => by
                have h := of_decide_eq_true h
                rw [List.length_map] at h
                have : q < O.length := by omega
                simp [this]
              have el := c_r13_less (O.getD q tok0) t
              have hK : (q = O.length ∨ ltT (O.getD q tok0) t = false) → insTK O t = q := fun h => twk_eq hq hall h
              generalize hlq : ltT (O.getD q tok0) t = lq at *
              generalize hoq : O.getD q tok0 = oq at *
              repeat' ((conv => whnf); first | refine And.intro (fun h => h) ?_ | refine dcond_t (by assumption) ?_ | refine dcond_f (by assumption) ?_ | (refine dcond_intro ?_ ?_ <;> intro h) | exact .refl | refine And.intro (by kernel_rfl) ?_ | refine And.intro ⟨fun h => h, fun h => h⟩ ?_ | refine ⟨q, tokE oq, And.intro ⟨⟨fun h => h, fun h => h⟩, fun hg => ⟨rfl, hgq hg⟩⟩ ?_⟩ | refine .inl ⟨_, _, DleAll_refl _, el, ?_⟩ | refine ⟨_, _, DleAll_refl _, fun _ => el, ?_⟩ | refine ⟨_, _, DleAll_refl _, el, ?_⟩ | refine Exists.intro false ?_ | (refine And.intro ?_ ?_; focus (simp; done)) | fail)
              all_goals (conv => whnf)
              · rw [Bool.and_eq_true, decide_eq_true_eq, List.length_map] at h
                refine ⟨q + 1, ⟨by omega, fun j hj => ?_⟩, by simp only []; omega, ?_⟩
                · rcases Nat.lt_succ_iff_lt_or_eq.1 hj with hj | rfl
                  · exact hall j hj
                  · rw [hoq, hlq]
                    exact h.2
                · conv => whnf
                  exact ⟨⟨.refl, .refl, .refl, .refl, .refl, dle_int (wrap_succ (by omega)), trivial⟩, ⟨.refl, trivial⟩, by rfl⟩
              · have hat := hK (by
                  rw [Bool.and_eq_false_iff, decide_eq_false_iff_not, List.length_map] at h
                  rcases h with h | h
                  · exact .inl (by omega)
                  · exact .inr h)
                clear h hK el hgq hall
                have hql : q ≤ (O.map tokE).length := by rw [List.length_map]; exact hq
                repeat' ((conv => whnf); first | refine And.intro (fun h => h) ?_ | refine dcond_t (by assumption) ?_ | refine dcond_f (by assumption) ?_ | (refine dcond_intro ?_ ?_ <;> intro h) | exact .refl | refine And.intro (by kernel_rfl) ?_ | refine And.intro ⟨fun h => h, fun h => h⟩ ?_ | refine ⟨0, q, And.intro ⟨rfl, ⟨_, rfl⟩, Nat.zero_le _, hql⟩ ?_⟩ | refine ⟨q, And.intro ⟨⟨_, rfl⟩, hql⟩ ?_⟩ | refine And.intro (fitsT (by simp <;> omega)) ?_ | refine Exists.intro false ?_ | (refine And.intro ?_ ?_; focus (simp; done)) | fail)
                all_goals (conv => whnf)
                refine ⟨k + 1, hk8, by simp only []; omega, ?_⟩
                conv => whnf
                refine ⟨⟨.refl, dle_lst ?_, .refl, dle_int (wrap_succ (by omega)), trivial⟩, trivial, by rfl⟩
                rw [hnx, insT, hat, List.map_append, List.map_append, List.map_take, List.map_drop]
                rfl
          · have hk8 : k = 8 := by
              simp at h
              omega
            subst hk8
            rw [hM8, ← htk]
            clear h
            try (conv => whnf)
            refine ⟨i + 1, hlt, by simp only []; omega, ?_⟩
            conv => whnf
            exact ⟨⟨.refl, .refl, dle_int (wrap_succ (by omega)), trivial⟩, trivial, by rfl⟩
      · have : i = ms.length := by
          simp at h
          omega
        subst this
        rw [List.take_length]
        repeat' ((conv => whnf); first | refine And.intro (fun h => h) ?_ | refine dcond_t (by assumption) ?_ | refine dcond_f (by assumption) ?_ | (refine dcond_intro ?_ ?_ <;> intro h) | exact .refl | refine And.intro (by kernel_rfl) ?_ | refine And.intro ⟨fun h => h, fun h => h⟩ ?_ | refine Exists.intro false ?_ | (refine And.intro ?_ ?_; focus (simp; done)) | fail)
theorem c_r13_Owners (ms : List Int) (hl : ms.length ≤ maxLen) (key : Int) : Ret Try.prog 54 [.lst 1 (ms.map intE) false, u64 key, i64 1] (.lst 1 ((bif decide (((tableR ms).length : Int) = 0) then [] else [ownerR ms key]).map intE) false) := by
  have e1 := c_r13_Table ms hl
  have hlen := table_len ms
  have ho : ownerR ms key = bif decide (((tableR ms).length : Int) = 0) then 0 else ((tableR ms).getD (firstR (tableR ms) key) tok0).mem := rfl
  generalize ownerR ms key = ow at *
  generalize tableR ms = T at *
  have hfi := fun {i : Nat} => first_at (t := T) (key := key) (i := i)
  have hfn := first_none (t := T) (key := key)
  have hge : ∀ i, geAt T key i = decide (key ≤ (T.getD i tok0).pos) := fun i => rfl
  generalize firstR T key = fr at *
  refine ret_of_body (fn := Try.f54) (c := Try.f54.body.getD .skip) hm hT (by kernel_rfl) Try.func54 (by kernel_rfl) (by kernel_rfl) (by kernel_rfl) (by kernel_rfl) ?_
  repeat' ((conv => whnf); first | refine And.intro (fun h => h) ?_ | refine dcond_t (by assumption) ?_ | refine dcond_f (by assumption) ?_ | (refine dcond_intro ?_ ?_ <;> intro h) | exact .refl | refine And.intro (by kernel_rfl) ?_ | refine And.intro ⟨fun h => h, fun h => h⟩ ?_ | refine .inl ⟨_, _, DleAll_refl _, e1, ?_⟩ | refine ⟨_, _, DleAll_refl _, fun _ => e1, ?_⟩ | refine ⟨_, _, DleAll_refl _, e1, ?_⟩ | refine Exists.intro false ?_ | (refine And.intro ?_ ?_; focus (simp; done)) | fail)
  all_goals (conv => whnf)
  refine ⟨Nat, fun q => ⟨[(1, u64 key), (2, i64 1), (7, .lst 3 (T.map tokE) false), (8, i64 q)], []⟩, fun q => q ≤ T.length ∧ ∀ j, j < q → geAt T key j = false, fun q => T.length - q, [], ⟨0, ⟨Nat.zero_le _, by omega⟩, ?_⟩, ?_⟩
  · conv => whnf
    exact ⟨⟨.refl, .refl, .refl, .refl, trivial⟩, trivial, by rfl⟩
  · intro q ⟨hq, hall⟩
    have hgq : decide ((q : Int) < ((T.map tokE).length : Int)) = true → (T.map tokE)[q]? = some (tokE (T.getD q tok0)) := fun h => by
      have h := of_decide_eq_true h
      rw [List.length_map] at h
      have : q < T.length := by omega
      simp [this]
    repeat' ((conv => whnf); first | refine And.intro (fun h => h) ?_ | refine dcond_t (by assumption) ?_ | refine dcond_f (by assumption) ?_ | (refine dcond_intro ?_ ?_ <;> intro h) | exact .refl | refine And.intro (by kernel_rfl) ?_ | refine And.intro ⟨fun h => h, fun h => h⟩ ?_ | refine ⟨q, tokE (T.getD q tok0), And.intro ⟨⟨fun h => h, fun h => h⟩, fun hg => ⟨rfl, hgq hg⟩⟩ ?_⟩ | refine ⟨q, tokE (T.getD q tok0), And.intro ⟨fun h => h, fun hg => ⟨rfl, hgq hg⟩⟩ ?_⟩ | refine Exists.intro false ?_ | (refine And.intro ?_ ?_; focus (simp; done)) | fail)
    all_goals (conv => whnf)
    · rw [Bool.and_eq_true, decide_eq_true_eq, decide_eq_true_eq, List.length_map] at h
      refine ⟨q + 1, ⟨by omega, fun j hj => ?_⟩, by simp only []; omega, ?_⟩
      · rcases Nat.lt_succ_iff_lt_or_eq.1 hj with hj | rfl
        · exact hall j hj
        · rw [hge]
          exact decide_eq_false (by omega)
      · conv => whnf
        exact ⟨⟨.refl, .refl, .refl, dle_int (wrap_succ (by omega)), trivial⟩, trivial, by rfl⟩
    · have how : 0 < T.length → ow = (T.getD (q % T.length) tok0).mem := fun h0 => by
        rw [decide_eq_false (show ¬ ((T.length : Int) = 0) by omega), cond_false] at ho
        rw [ho]
        rw [Bool.and_eq_false_iff, decide_eq_false_iff_not, decide_eq_false_iff_not, List.length_map] at h
        rcases Nat.lt_or_eq_of_le hq with h1 | h1
        · have hf := hfi h1 (by rw [hge]; exact decide_eq_true (by omega)) hall
          rw [hf, Nat.mod_eq_of_lt h1]
        · subst h1
          rw [hfn hall, Nat.mod_self]
      clear h hfi hfn hge hgq hall ho
      refine ⟨Nat, fun i => ⟨[(2, i64 1), (7, .lst 3 (T.map tokE) false), (8, i64 q), (9, .own 0), (10, i64 i)], [.row 3 1 ((if i = 0 then ([] : List Int) else [ow]).map intE)]⟩, fun i => i ≤ 1 ∧ i ≤ T.length, fun i => 1 - i, [.slot 9 3 1], ⟨0, ⟨by omega, by omega⟩, ?_⟩, ?_⟩
      · conv => whnf
        exact ⟨⟨.refl, .refl, .refl, .refl, .refl, trivial⟩, ⟨.refl, trivial⟩, by rfl⟩
      · intro i ⟨hi1, hi⟩
        rcases Nat.lt_or_eq_of_le hi1 with h0 | h0
        · have h0 : i = 0 := by omega
          subst h0
          repeat' ((conv => whnf); first | refine And.intro (fun h => h) ?_ | refine dcond_t (by assumption) ?_ | refine dcond_f (by assumption) ?_ | (refine dcond_intro ?_ ?_ <;> intro h) | exact .refl | refine And.intro (by kernel_rfl) ?_ | refine And.intro ⟨fun h => h, fun h => h⟩ ?_ | refine Exists.intro false ?_ | (refine And.intro ?_ ?_; focus (simp; done)) | fail)
          · have hT0 : 0 < T.length := by
              rw [Bool.and_eq_true, decide_eq_true_eq, List.length_map] at h
              omega
            clear h
            have how := how hT0
            have hr : q % T.length < T.length := Nat.mod_lt _ hT0
            have hne : ((T.map tokE).length : Int) ≠ 0 := by
              rw [List.length_map]; omega
            have hix : Int.tmod (IntKind.i64.wrap ((q : Int) + ((0 : Nat) : Int))) ((T.map tokE).length : Int) = ((q % T.length : Nat) : Int) := by
              rw [wrap_i64 (by omega) (by omega), List.length_map]
              rfl
            have hgg : (T.map tokE)[q % T.length]? = some (tokE (T.getD (q % T.length) tok0)) := by simp [hr]
            have ec := c_ref3_Contains [] (by simp) (T.getD (q % T.length) tok0).mem
            rw [show inB [] (T.getD (q % T.length) tok0).mem = false from rfl] at ec
            generalize T.getD (q % T.length) tok0 = tq at *
            have hfI : ∀ n, n ≤ 2000000 → fitsIn tt 3 n := fun n h => by
              have e : (tinfo tt 3).bytes = 8 := by kernel_rfl
              refine ⟨?_, ?_⟩
              · rw [e]; omega
              · simp only [maxLen]; omega
            repeat' ((conv => whnf); first | refine And.intro (fun h => h) ?_ | refine dcond_t (by assumption) ?_ | refine dcond_f (by assumption) ?_ | (refine dcond_intro ?_ ?_ <;> intro h) | exact .refl | refine And.intro (by kernel_rfl) ?_ | refine And.intro ⟨fun h => h, fun h => h⟩ ?_ | refine And.intro hne ?_ | refine ⟨q % T.length, _, And.intro ⟨hix, hgg⟩ ?_⟩ | refine .inl ⟨_, _, DleAll_refl _, ec, ?_⟩ | refine ⟨_, _, DleAll_refl _, fun _ => ec, ?_⟩ | refine ⟨_, _, DleAll_refl _, ec, ?_⟩ | refine And.intro (hfI _ (by simp <;> omega)) ?_ | refine Exists.intro false ?_ | (refine And.intro ?_ ?_; focus (simp; done)) | fail)
            all_goals (conv => whnf)
            refine ⟨1, ⟨by omega, by omega⟩, by simp only []; omega, ?_⟩
            conv => whnf
            refine ⟨⟨.refl, .refl, .refl, .refl, .refl, trivial⟩, ⟨ole_row ?_, trivial⟩, by rfl⟩
            rw [how]
            rfl
          · have hT : T.length = 0 := by
              rw [Bool.and_eq_false_iff, decide_eq_false_iff_not, List.length_map] at h
              rcases h with h | h
              · omega
              · simp at h
            repeat' ((conv => whnf); first | refine And.intro (fun h => h) ?_ | refine dcond_t (by assumption) ?_ | refine dcond_f (by assumption) ?_ | (refine dcond_intro ?_ ?_ <;> intro h) | exact .refl | refine And.intro (by kernel_rfl) ?_ | refine And.intro ⟨fun h => h, fun h => h⟩ ?_ | refine Exists.intro false ?_ | (refine And.intro ?_ ?_; focus (simp; done)) | fail)
            all_goals (conv => whnf)
            refine dle_lst ?_
            rw [hT]
            rfl
        · subst h0
          have hT : decide ((T.length : Int) = 0) = false := decide_eq_false (by omega)
          rw [hT]
          repeat' ((conv => whnf); first | refine And.intro (fun h => h) ?_ | refine dcond_t (by assumption) ?_ | refine dcond_f (by assumption) ?_ | (refine dcond_intro ?_ ?_ <;> intro h) | exact .refl | refine And.intro (by kernel_rfl) ?_ | refine And.intro ⟨fun h => h, fun h => h⟩ ?_ | refine Exists.intro false ?_ | (refine And.intro ?_ ?_; focus (simp; done)) | fail)
          exfalso
          simp at h
theorem c_r13_Owner (ms : List Int) (hl : ms.length ≤ maxLen) (key : Int) : Ret Try.prog 47 [.lst 1 (ms.map intE) false, u64 key] (i64 (ownerR ms key)) := by
  have e1 := c_r13_Owners ms hl key
  have ho : ownerR ms key = bif decide (((tableR ms).length : Int) = 0) then 0 else ((tableR ms).getD (firstR (tableR ms) key) tok0).mem := rfl
  generalize ownerR ms key = ow at *
  cases hTz : decide (((tableR ms).length : Int) = 0)
  · rw [hTz, cond_false] at e1
    have hg : (([ow] : List Int).map intE)[0]? = some (intE ow) := rfl
    refine ret_of_body (fn := Try.f47) (c := Try.f47.body.getD .skip) hm hT (by kernel_rfl) Try.func47 (by kernel_rfl) (by kernel_rfl) (by kernel_rfl) (by kernel_rfl) ?_
    repeat' ((conv => whnf); first | refine And.intro (fun h => h) ?_ | refine dcond_t (by assumption) ?_ | refine dcond_f (by assumption) ?_ | (refine dcond_intro ?_ ?_ <;> intro h) | exact .refl | refine And.intro (by kernel_rfl) ?_ | refine And.intro ⟨fun h => h, fun h => h⟩ ?_ | refine .inl ⟨_, _, DleAll_refl _, e1, ?_⟩ | refine ⟨_, _, DleAll_refl _, fun _ => e1, ?_⟩ | refine ⟨_, _, DleAll_refl _, e1, ?_⟩ | refine ⟨0, intE ow, And.intro ⟨rfl, hg⟩ ?_⟩ | refine Exists.intro false ?_ | (refine And.intro ?_ ?_; focus (simp; done)) | fail)
  · rw [hTz, cond_true] at e1
    rw [hTz, cond_true] at ho
    subst ho
    refine ret_of_body (fn := Try.f47) (c := Try.f47.body.getD .skip) hm hT (by kernel_rfl) Try.func47 (by kernel_rfl) (by kernel_rfl) (by kernel_rfl) (by kernel_rfl) ?_
    repeat' ((conv => whnf); first | refine And.intro (fun h => h) ?_ | refine dcond_t (by assumption) ?_ | refine dcond_f (by assumption) ?_ | (refine dcond_intro ?_ ?_ <;> intro h) | exact .refl | refine And.intro (by kernel_rfl) ?_ | refine And.intro ⟨fun h => h, fun h => h⟩ ?_ | refine .inl ⟨_, _, DleAll_refl _, e1, ?_⟩ | refine ⟨_, _, DleAll_refl _, fun _ => e1, ?_⟩ | refine ⟨_, _, DleAll_refl _, e1, ?_⟩ | refine Exists.intro false ?_ | (refine And.intro ?_ ?_; focus (simp; done)) | fail)
theorem c_r13_Home (v : View) (hv : v.mem.length ≤ maxLen) (r : Ref) (h1 : r.ty.size ≤ 1000000) (h2 : r.key.size ≤ 1000000) : Ret Try.prog 39 [.agg (viewE v), .agg (refE r)] (i64 (homeR v r)) := by
  have e1 := c_ref3_Valid v hv
  have e2 := c_r2_Actor r h1 h2
  have e3 := c_r13_Owner v.mem hv (actH r)
  have hd : homeR v r = bif !viewB v then 0 else ownerR v.mem (actH r) := rfl
  generalize ownerR v.mem (actH r) = ow at *
  generalize homeR v r = res at *
  generalize actH r = ah at *
  generalize viewB v = vb at *
  refine ret_of_body (fn := Try.f39) (c := Try.f39.body.getD .skip) hm hT (by kernel_rfl) Try.func39 (by kernel_rfl) (by kernel_rfl) (by kernel_rfl) (by kernel_rfl) ?_
  repeat' ((conv => whnf); first | refine And.intro (fun h => h) ?_ | refine dcond_t (by assumption) ?_ | refine dcond_f (by assumption) ?_ | (refine dcond_intro ?_ ?_ <;> intro h) | exact .refl | refine And.intro (by kernel_rfl) ?_ | refine And.intro ⟨fun h => h, fun h => h⟩ ?_ | refine .inl ⟨_, _, DleAll_refl _, e1, ?_⟩ | refine ⟨_, _, DleAll_refl _, fun _ => e1, ?_⟩ | refine ⟨_, _, DleAll_refl _, e1, ?_⟩ | refine .inl ⟨_, _, DleAll_refl _, e2, ?_⟩ | refine ⟨_, _, DleAll_refl _, fun _ => e2, ?_⟩ | refine ⟨_, _, DleAll_refl _, e2, ?_⟩ | refine .inl ⟨_, _, DleAll_refl _, e3, ?_⟩ | refine ⟨_, _, DleAll_refl _, fun _ => e3, ?_⟩ | refine ⟨_, _, DleAll_refl _, e3, ?_⟩ | refine Exists.intro false ?_ | (refine And.intro ?_ ?_; focus (simp; done)) | fail)
  all_goals (conv => whnf)
  · rw [hd, h]
    exact .refl
  · rw [hd, h]
    exact .refl
end Go.Proofs.Ythdpjinchanceaa

set_option linter.unusedSimpArgs false
set_option linter.unusedVariables false
set_option maxRecDepth 100000
namespace Go.Proofs.Ythdpjinchanceaa
open Go.Lift
/-! reference 14 -/
theorem c_r14_ValidRef (r : Ref) : Ret Try.prog 36 [.agg (refE r)] (.v (.bool (refB r))) := by
  refine ret_of_body (fn := Try.f36) (c := Try.f36.body.getD .skip) hm hT (by kernel_rfl) Try.func36 (by kernel_rfl) (by kernel_rfl) (by kernel_rfl) (by kernel_rfl) ?_
  repeat' ((conv => whnf); first | refine And.intro (fun h => h) ?_ | refine dcond_t (by assumption) ?_ | refine dcond_f (by assumption) ?_ | (refine dcond_intro ?_ ?_ <;> intro h) | exact .refl | refine And.intro (by kernel_rfl) ?_ | refine And.intro ⟨fun h => h, fun h => h⟩ ?_ | refine Exists.intro false ?_ | (refine And.intro ?_ ?_; focus (simp; done)) | fail)
theorem c_r14_Less (a b : Ref) : Ret Try.prog 44 [.agg (refE a), .agg (refE b)] (.v (.bool (lessB a b))) := by
  refine ret_of_body (fn := Try.f44) (c := Try.f44.body.getD .skip) hm hT (by kernel_rfl) Try.func44 (by kernel_rfl) (by kernel_rfl) (by kernel_rfl) (by kernel_rfl) ?_
  repeat' ((conv => whnf); first | refine And.intro (fun h => h) ?_ | refine dcond_t (by assumption) ?_ | refine dcond_f (by assumption) ?_ | (refine dcond_intro ?_ ?_ <;> intro h) | exact .refl | refine And.intro (by kernel_rfl) ?_ | refine And.intro ⟨fun h => h, fun h => h⟩ ?_ | refine Exists.intro false ?_ | (refine And.intro ?_ ?_; focus (simp; done)) | fail)
theorem rec_ref (x : Rec) : recOk x = bif !refB x.ref || decide (x.ep < 1) || decide (x.ep > 1099511627776) then false else bif decide (x.mem = 0) then decide (x.tgt = 0) else (decide (1 ≤ x.mem) && decide (x.mem ≤ 1000)) && (decide (x.tgt = 0) || ((decide (1 ≤ x.tgt) && decide (x.tgt ≤ 1000)) && !decide (x.tgt = x.mem))) := by
  unfold recOk numB identB
  cases refB x.ref
  · rfl
  · by_cases h1 : x.ep < 1
    · rw [decide_eq_true h1, decide_eq_false (show ¬ 1 ≤ x.ep by omega)]
      rfl
    · by_cases h2 : x.ep > 1099511627776
      · rw [decide_eq_false h1, decide_eq_true h2, decide_eq_false (show ¬ x.ep ≤ 1099511627776 by omega)]
        simp
      · rw [decide_eq_false h1, decide_eq_false h2, decide_eq_true (show 1 ≤ x.ep by omega), decide_eq_true (show x.ep ≤ 1099511627776 by omega)]
        simp only [Bool.not_true, Bool.or_self, cond_false, Bool.true_and]
        cases decide (x.mem = 0) <;> cases decide (x.tgt = 0) <;> cases (decide (1 ≤ x.mem) && decide (x.mem ≤ 1000)) <;> cases (decide (1 ≤ x.tgt) && decide (x.tgt ≤ 1000)) <;> cases decide (x.tgt = x.mem) <;> rfl
theorem c_r14_ValidRecord (x : Rec) : Ret Try.prog 43 [.agg (recE x)] (.v (.bool (recOk x))) := by
  have e1 := c_r14_ValidRef x.ref
  have e2 := c_ref3_IsID x.mem
  have e3 := c_ref3_IsID x.tgt
  rw [rec_ref]
  generalize refB x.ref = rb at *
  refine ret_of_body (fn := Try.f43) (c := Try.f43.body.getD .skip) hm hT (by kernel_rfl) Try.func43 (by kernel_rfl) (by kernel_rfl) (by kernel_rfl) (by kernel_rfl) ?_
  repeat' ((conv => whnf); first | refine And.intro (fun h => h) ?_ | refine dcond_t (by assumption) ?_ | refine dcond_f (by assumption) ?_ | (refine dcond_intro ?_ ?_ <;> intro h) | exact .refl | refine And.intro (by kernel_rfl) ?_ | refine And.intro ⟨fun h => h, fun h => h⟩ ?_ | refine .inl ⟨_, _, DleAll_refl _, e1, ?_⟩ | refine ⟨_, _, DleAll_refl _, fun _ => e1, ?_⟩ | refine ⟨_, _, DleAll_refl _, e1, ?_⟩ | refine .inl ⟨_, _, DleAll_refl _, e2, ?_⟩ | refine ⟨_, _, DleAll_refl _, fun _ => e2, ?_⟩ | refine ⟨_, _, DleAll_refl _, e2, ?_⟩ | refine .inl ⟨_, _, DleAll_refl _, e3, ?_⟩ | refine ⟨_, _, DleAll_refl _, fun _ => e3, ?_⟩ | refine ⟨_, _, DleAll_refl _, e3, ?_⟩ | refine Exists.intro false ?_ | (refine And.intro ?_ ?_; focus (simp; done)) | fail)
  all_goals (conv => whnf)
  · rw [h]
    exact .refl
  · rename_i h0
    rw [h0, h]
    exact .refl
  · rename_i h0
    rw [h0, h]
    exact .refl
theorem c_r14_Valid (d : List Rec) (hl : d.length ≤ maxLen) : Ret Try.prog 35 [.lst 5 (d.map recE) false] (.v (.bool (validB d))) := by
  have hl' : d.length ≤ 9223372036854775807 := hl
  have hd : validB d = (!decide (200 < (d.length : Int)) && allB (okAtR d) d.length) := rfl
  generalize validB d = res at *
  refine ret_of_body (fn := Try.f35) (c := Try.f35.body.getD .skip) hm hT (by kernel_rfl) Try.func35 (by kernel_rfl) (by kernel_rfl) (by kernel_rfl) (by kernel_rfl) ?_
  repeat' ((conv => whnf); first | refine And.intro (fun h => h) ?_ | refine dcond_t (by assumption) ?_ | refine dcond_f (by assumption) ?_ | (refine dcond_intro ?_ ?_ <;> intro h) | exact .refl | refine And.intro (by kernel_rfl) ?_ | refine And.intro ⟨fun h => h, fun h => h⟩ ?_ | refine Exists.intro false ?_ | (refine And.intro ?_ ?_; focus (simp; done)) | fail)
  all_goals (conv => whnf)
  · rw [List.length_map] at h
    have h : decide (200 < (d.length : Int)) = true := h
    rw [hd, h]
    exact .refl
  · rw [List.length_map] at h
    have h : decide (200 < (d.length : Int)) = false := h
    rw [h, Bool.not_false, Bool.true_and] at hd
    clear h
    subst hd
    refine ⟨Nat, fun i => ⟨[(0, .lst 5 (d.map recE) false), (3, i64 i)], []⟩, fun i => i ≤ d.length ∧ ∀ j, j < i → okAtR d j = true, fun i => d.length - i, [], ⟨0, ⟨Nat.zero_le _, by omega⟩, ?_⟩, ?_⟩
    · conv => whnf
      exact ⟨⟨.refl, .refl, trivial⟩, trivial, by rfl⟩
    · intro i ⟨hi, hall⟩
      repeat' ((conv => whnf); first | refine And.intro (fun h => h) ?_ | refine dcond_t (by assumption) ?_ | refine dcond_f (by assumption) ?_ | (refine dcond_intro ?_ ?_ <;> intro h) | exact .refl | refine And.intro (by kernel_rfl) ?_ | refine And.intro ⟨fun h => h, fun h => h⟩ ?_ | refine Exists.intro false ?_ | (refine And.intro ?_ ?_; focus (simp; done)) | fail)
      · have hlt : i < d.length := by simpa using h
        clear h
        have hg : d.getD i zeroR = d[i] := by simp [hlt]
        have hok : okAtR d i = (recOk d[i] && !(decide (0 < (i : Int)) && !lessB (d.getD (i - 1) zeroR).ref d[i].ref)) := by
          unfold okAtR
          rw [hg]
        have e4 := c_r14_ValidRecord d[i]
        have e5 := c_r14_Less (d.getD (i - 1) zeroR).ref d[i].ref
        have hix : ∀ c : Bool, (c && decide ((0 : Int) < (i : Int))) = true → IntKind.i64.wrap ((i : Int) - 1) = ((i - 1 : Nat) : Int) ∧ (d.map recE)[i - 1]? = some (recE (d.getD (i - 1) zeroR)) := fun c h => by
          rw [Bool.and_eq_true, decide_eq_true_eq] at h
          have : i - 1 < d.length := by omega
          refine ⟨by rw [wrap_i64 (by omega) (by omega)]; omega, ?_⟩
          simp [this]
        generalize recOk d[i] = va at e4 hok
        generalize lessB (d.getD (i - 1) zeroR).ref d[i].ref = lb at e5 hok
        generalize d.getD (i - 1) zeroR = lp at e5 hix
        repeat' ((conv => whnf); first | refine And.intro (fun h => h) ?_ | refine dcond_t (by assumption) ?_ | refine dcond_f (by assumption) ?_ | (refine dcond_intro ?_ ?_ <;> intro h) | exact .refl | refine And.intro (by kernel_rfl) ?_ | refine And.intro ⟨fun h => h, fun h => h⟩ ?_ | refine ⟨_, _, And.intro ⟨rfl, get_map hlt⟩ ?_⟩ | refine .inl ⟨_, _, DleAll_refl _, e4, ?_⟩ | refine ⟨_, _, DleAll_refl _, fun _ => e4, ?_⟩ | refine ⟨_, _, DleAll_refl _, e4, ?_⟩ | refine ⟨i - 1, recE lp, And.intro ⟨⟨fun h => h, fun h => h⟩, fun h => hix _ h⟩ ?_⟩ | refine ⟨i, recE (d[i]'hlt), And.intro ⟨⟨fun h => h, fun h => h⟩, fun _ => ⟨rfl, get_map hlt⟩⟩ ?_⟩ | refine .inl ⟨_, _, DleAll_refl _, e5, ?_⟩ | refine ⟨_, _, DleAll_refl _, fun _ => e5, ?_⟩ | refine ⟨_, _, DleAll_refl _, e5, ?_⟩ | refine Exists.intro false ?_ | (refine And.intro ?_ ?_; focus (simp; done)) | fail)
        all_goals (conv => whnf)
        · have hb : okAtR d i = !(!va || (decide ((0 : Int) < (i : Int)) && !lb)) := by
            rw [hok, Bool.not_or, Bool.not_not]
          rw [allB_false hlt (by rw [hb, h]; rfl)]
          exact .refl
        · have hb : okAtR d i = !(!va || (decide ((0 : Int) < (i : Int)) && !lb)) := by
            rw [hok, Bool.not_or, Bool.not_not]
          refine ⟨i + 1, ⟨hlt, fun j hj => ?_⟩, by simp only []; omega, ?_⟩
          · rcases Nat.lt_succ_iff_lt_or_eq.1 hj with hj | rfl
            · exact hall j hj
            · rw [hb, h]
              rfl
          · conv => whnf
            exact ⟨⟨.refl, dle_int (wrap_succ (by omega)), trivial⟩, trivial, by rfl⟩
      · have hge : ¬ i < d.length := by simpa using h
        conv => whnf
        refine dle_bool ?_
        rw [allB_true.2 (fun j hj => hall j (by omega))]
theorem c_r14_Find (d : List Rec) (hl : d.length ≤ 1000000) (r : Ref) : Ret Try.prog 37 [.lst 5 (d.map recE) false, .agg (refE r)] (.tup [.agg (recE (findR d r).1), .v (.bool (findR d r).2)]) := by
  refine ret_of_body (fn := Try.f37) (c := Try.f37.body.getD .skip) hm hT (by kernel_rfl) Try.func37 (by kernel_rfl) (by kernel_rfl) (by kernel_rfl) (by kernel_rfl) ?_
  repeat' ((conv => whnf); first | refine And.intro (fun h => h) ?_ | refine dcond_t (by assumption) ?_ | refine dcond_f (by assumption) ?_ | (refine dcond_intro ?_ ?_ <;> intro h) | exact .refl | refine And.intro (by kernel_rfl) ?_ | refine And.intro ⟨fun h => h, fun h => h⟩ ?_ | refine Exists.intro false ?_ | (refine And.intro ?_ ?_; focus (simp; done)) | fail)
  all_goals (conv => whnf)
  refine ⟨Nat, fun i => ⟨[(0, .lst 5 (d.map recE) false), (3, .lp 0 0), (4, .lp 1 0), (6, i64 i)], [.cells 27 (refE r), .cells 36 (recE zeroR)]⟩, fun i => i ≤ d.length ∧ ∀ j (h : j < d.length), j < i → refEq (d[j].ref) r = false, fun i => d.length - i, [], ⟨0, ⟨Nat.zero_le _, by omega⟩, ?_⟩, ?_⟩
  · conv => whnf
    exact ⟨⟨.refl, .refl, .refl, .refl, trivial⟩, ⟨.refl, .refl, trivial⟩, by rfl⟩
  · intro i ⟨hi, hall⟩
    repeat' ((conv => whnf); first | refine And.intro (fun h => h) ?_ | refine dcond_t (by assumption) ?_ | refine dcond_f (by assumption) ?_ | (refine dcond_intro ?_ ?_ <;> intro h) | exact .refl | refine And.intro (by kernel_rfl) ?_ | refine And.intro ⟨fun h => h, fun h => h⟩ ?_ | refine Exists.intro false ?_ | (refine And.intro ?_ ?_; focus (simp; done)) | fail)
    · have hlt : i < d.length := by simpa using h
      clear h
      have he : refEq d[i].ref r = (decide (d[i].ref.ty = r.ty) && (decide (d[i].ref.key = r.key) && true)) := rfl
      repeat' ((conv => whnf); first | refine And.intro (fun h => h) ?_ | refine dcond_t (by assumption) ?_ | refine dcond_f (by assumption) ?_ | (refine dcond_intro ?_ ?_ <;> intro h) | exact .refl | refine And.intro (by kernel_rfl) ?_ | refine And.intro ⟨fun h => h, fun h => h⟩ ?_ | refine ⟨_, _, And.intro ⟨rfl, get_map hlt⟩ ?_⟩ | refine Exists.intro false ?_ | (refine And.intro ?_ ?_; focus (simp; done)) | fail)
      all_goals (conv => whnf)
      · have hi1 : idxO d r = some i := List.findIdx?_eq_some_iff_getElem.2 ⟨hlt, he.trans h, fun j hj => by simp [hall j (by omega) hj]⟩
        have e1 : findR d r = (d[i], true) := by simp [findR, hi1, hlt]
        rw [e1]
        repeat' ((conv => whnf); first | refine And.intro (fun h => h) ?_ | refine dcond_t (by assumption) ?_ | refine dcond_f (by assumption) ?_ | (refine dcond_intro ?_ ?_ <;> intro h) | exact .refl | refine And.intro (by kernel_rfl) ?_ | refine And.intro ⟨fun h => h, fun h => h⟩ ?_ | refine ⟨_, _, And.intro ⟨rfl, get_map hlt⟩ ?_⟩ | refine Exists.intro false ?_ | (refine And.intro ?_ ?_; focus (simp; done)) | fail)
        try exact .refl
      · refine ⟨i + 1, ⟨hlt, fun j hj hji => ?_⟩, by simp only []; omega, ?_⟩
        · rcases Nat.lt_succ_iff_lt_or_eq.1 hji with hji | rfl
          · exact hall j hj hji
          · exact he.trans h
        · conv => whnf
          exact ⟨⟨.refl, .refl, .refl, dle_int (wrap_succ (by omega)), trivial⟩, ⟨.refl, .refl, trivial⟩, by rfl⟩
    · have hge : ¬ i < d.length := by simpa using h
      have hi1 : idxO d r = none := List.findIdx?_eq_none_iff.2 (fun x hx => by
        obtain ⟨j, hj, rfl⟩ := List.getElem_of_mem hx
        exact hall j hj (by omega))
      have e1 : findR d r = (zeroR, false) := by simp [findR, hi1, zeroR]
      rw [e1]
      conv => whnf
      exact .refl
end Go.Proofs.Ythdpjinchanceaa

set_option linter.unusedSimpArgs false
set_option linter.unusedVariables false
set_option maxRecDepth 100000
namespace Go.Proofs.Ythdpjinchanceaa
open Go.Lift
/-! DirFences -/
theorem fitsA14 {n : Nat} (h : n ≤ 2000000) : fitsIn tt 36 n := by
  have e : (tinfo tt 36).bytes = 56 := by kernel_rfl
  refine ⟨?_, ?_⟩
  · rw [e]; omega
  · simp only [maxLen]; omega
theorem c_r14_Reconcile (d : List Rec) (hl : d.length ≤ 1000000) (v : View) (hv : v.mem.length ≤ maxLen) : Ret Try.prog 19 [.lst 5 (d.map recE) false, .agg (viewE v)] (.lst 5 ((recoR d v).map recE) false) := by
  have e1 := c_r14_Valid d (by simp only [maxLen]; omega)
  have e2 := c_ref3_Valid v hv
  have hd : recoR d v = bif !validB d || !viewB v then [] else d.map (recFix v) := rfl
  generalize recoR d v = res at *
  generalize validB d = b1 at *
  generalize viewB v = b2 at *
  refine ret_of_body (fn := Try.f19) (c := Try.f19.body.getD .skip) hm hT (by kernel_rfl) Try.func19 (by kernel_rfl) (by kernel_rfl) (by kernel_rfl) (by kernel_rfl) ?_
  repeat' ((conv => whnf); first | refine And.intro (fun h => h) ?_ | refine dcond_t (by assumption) ?_ | refine dcond_f (by assumption) ?_ | (refine dcond_intro ?_ ?_ <;> intro h) | exact .refl | refine And.intro (by kernel_rfl) ?_ | refine And.intro ⟨fun h => h, fun h => h⟩ ?_ | refine .inl ⟨_, _, DleAll_refl _, e1, ?_⟩ | refine ⟨_, _, DleAll_refl _, fun _ => e1, ?_⟩ | refine ⟨_, _, DleAll_refl _, e1, ?_⟩ | refine .inl ⟨_, _, DleAll_refl _, e2, ?_⟩ | refine ⟨_, _, DleAll_refl _, fun _ => e2, ?_⟩ | refine ⟨_, _, DleAll_refl _, e2, ?_⟩ | refine Exists.intro false ?_ | (refine And.intro ?_ ?_; focus (simp; done)) | fail)
  all_goals (conv => whnf)
  · rw [hd, h]
    exact .nl
  · rw [h, cond_false] at hd
    clear h
    subst hd
    refine ⟨Nat, fun i => ⟨[(0, .lst 5 (d.map recE) false), (3, .lp 0 0), (5, .own 1), (6, i64 i)], [.cells 25 (viewE v), .row 36 5 (((d.take i).map (recFix v)).map recE)]⟩, fun i => i ≤ d.length, fun i => d.length - i, [.slot 5 36 5], ⟨0, Nat.zero_le _, ?_⟩, ?_⟩
    · conv => whnf
      exact ⟨⟨.refl, .refl, .refl, .refl, trivial⟩, ⟨.refl, .refl, trivial⟩, by rfl⟩
    · intro i hi
      repeat' ((conv => whnf); first | refine And.intro (fun h => h) ?_ | refine dcond_t (by assumption) ?_ | refine dcond_f (by assumption) ?_ | (refine dcond_intro ?_ ?_ <;> intro h) | exact .refl | refine And.intro (by kernel_rfl) ?_ | refine And.intro ⟨fun h => h, fun h => h⟩ ?_ | refine Exists.intro false ?_ | (refine And.intro ?_ ?_; focus (simp; done)) | fail)
      · have hlt : i < d.length := by simpa using h
        clear h
        have c1 := c_ref3_Contains v.mem hv d[i].mem
        have c2 := c_ref3_Contains v.mem hv d[i].tgt
        have c3 := c_ref3_Contains v.mem hv 0
        have hs : (d.take (i + 1)).map (recFix v) = (d.take i).map (recFix v) ++ [recFix v d[i]] := by
          rw [List.take_succ_eq_append_getElem hlt, List.map_append]
          rfl
        repeat' ((conv => whnf); first | refine And.intro (fun h => h) ?_ | refine dcond_t (by assumption) ?_ | refine dcond_f (by assumption) ?_ | (refine dcond_intro ?_ ?_ <;> intro h) | exact .refl | refine And.intro (by kernel_rfl) ?_ | refine And.intro ⟨fun h => h, fun h => h⟩ ?_ | refine ⟨_, _, And.intro ⟨rfl, get_map hlt⟩ ?_⟩ | refine .inl ⟨_, _, DleAll_refl _, c1, ?_⟩ | refine ⟨_, _, DleAll_refl _, fun _ => c1, ?_⟩ | refine ⟨_, _, DleAll_refl _, c1, ?_⟩ | refine .inl ⟨_, _, DleAll_refl _, c2, ?_⟩ | refine ⟨_, _, DleAll_refl _, fun _ => c2, ?_⟩ | refine ⟨_, _, DleAll_refl _, c2, ?_⟩ | refine .inl ⟨_, _, DleAll_refl _, c3, ?_⟩ | refine ⟨_, _, DleAll_refl _, fun _ => c3, ?_⟩ | refine ⟨_, _, DleAll_refl _, c3, ?_⟩ | refine And.intro (fitsA14 (by simp <;> omega)) ?_ | refine Exists.intro false ?_ | (refine And.intro ?_ ?_; focus (simp; done)) | fail)
        all_goals (conv => whnf)
        all_goals refine ⟨i + 1, hlt, by simp only []; omega, ?_⟩
        all_goals (conv => whnf)
        all_goals refine ⟨⟨.refl, .refl, .refl, dle_int (wrap_succ (by omega)), trivial⟩, ⟨.refl, ole_row ?_, trivial⟩, by rfl⟩
        all_goals rw [hs, List.map_append]
        all_goals congr 1
        · rename_i h1
          have h : (!inB v.mem 0) = true := h
          have hf : recFix v d[i] = ⟨d[i].ref, 0, d[i].ep, 0⟩ := by simp only [recFix, h1, h, cond_true]
          rw [hf]
          rfl
        · rename_i h1
          have h : (!inB v.mem 0) = false := h
          have hf : recFix v d[i] = ⟨d[i].ref, 0, d[i].ep, 0⟩ := by simp only [recFix, h1, h, cond_true, cond_false]
          rw [hf]
          rfl
        · rename_i h1
          have hf : recFix v d[i] = ⟨d[i].ref, d[i].mem, d[i].ep, 0⟩ := by simp only [recFix, h1, h, cond_true, cond_false]
          rw [hf]
          rfl
        · rename_i h1
          have hf : recFix v d[i] = d[i] := by simp only [recFix, h1, h, cond_false]
          rw [hf]
          rfl
      · have : i = d.length := by
          simp at h
          omega
        subst this
        rw [List.take_length]
        repeat' ((conv => whnf); first | refine And.intro (fun h => h) ?_ | refine dcond_t (by assumption) ?_ | refine dcond_f (by assumption) ?_ | (refine dcond_intro ?_ ?_ <;> intro h) | exact .refl | refine And.intro (by kernel_rfl) ?_ | refine And.intro ⟨fun h => h, fun h => h⟩ ?_ | refine Exists.intro false ?_ | (refine And.intro ?_ ?_; focus (simp; done)) | fail)
theorem find_no {d : List Rec} {r : Ref} (h : (findR d r).2 = false) : (findR d r).1.mem = 0 := by
  unfold findR at *
  cases hi : idxO d r with
  | none => rfl
  | some i =>
    rw [hi] at h
    cases h
theorem c_r14_Fence (d : List Rec) (hl : d.length ≤ 1000000) (r : Ref) (m ep : Int) : Ret Try.prog 20 [.lst 5 (d.map recE) false, .agg (refE r), i64 m, i64 ep] (i64 (fenceE d r m ep)) := by
  have e1 := c_r14_Valid d (by simp only [maxLen]; omega)
  have e2 := c_r14_ValidRef r
  have e3 := c_r14_Find d hl r
  have hd : fenceE d r m ep = bif !validB d || !refB r then 1
  else bif !(findR d r).2 || decide ((findR d r).1.mem = 0) then 6
  else bif !decide ((findR d r).1.mem = m) then 10
  else bif !decide ((findR d r).1.ep = ep) then 8
  else 0 := rfl
  have hno : (!(findR d r).2 || decide ((findR d r).1.mem = 0)) = decide ((findR d r).1.mem = 0) := by
    cases h : (findR d r).2
    · rw [find_no h]
      rfl
    · rfl
  rw [hno] at hd
  clear hno
  generalize fenceE d r m ep = res at *
  generalize validB d = b1 at *
  generalize refB r = b2 at *
  generalize findR d r = F at *
  obtain ⟨F1, F2⟩ := F
  simp only [] at e3 hd
  refine ret_of_body (fn := Try.f20) (c := Try.f20.body.getD .skip) hm hT (by kernel_rfl) Try.func20 (by kernel_rfl) (by kernel_rfl) (by kernel_rfl) (by kernel_rfl) ?_
  repeat' ((conv => whnf); first | refine And.intro (fun h => h) ?_ | refine dcond_t (by assumption) ?_ | refine dcond_f (by assumption) ?_ | (refine dcond_intro ?_ ?_ <;> intro h) | exact .refl | refine And.intro (by kernel_rfl) ?_ | refine And.intro ⟨fun h => h, fun h => h⟩ ?_ | refine .inl ⟨_, _, DleAll_refl _, e1, ?_⟩ | refine ⟨_, _, DleAll_refl _, fun _ => e1, ?_⟩ | refine ⟨_, _, DleAll_refl _, e1, ?_⟩ | refine .inl ⟨_, _, DleAll_refl _, e2, ?_⟩ | refine ⟨_, _, DleAll_refl _, fun _ => e2, ?_⟩ | refine ⟨_, _, DleAll_refl _, e2, ?_⟩ | refine .inl ⟨_, _, DleAll_refl _, e3, ?_⟩ | refine ⟨_, _, DleAll_refl _, fun _ => e3, ?_⟩ | refine ⟨_, _, DleAll_refl _, e3, ?_⟩ | refine Exists.intro false ?_ | (refine And.intro ?_ ?_; focus (simp; done)) | fail)
  all_goals (conv => whnf)
  all_goals simp only [*, cond_true, cond_false] at hd
  all_goals rw [hd]
  all_goals exact .refl
theorem c_directory_Placer (v : View) (hv : v.mem.length ≤ maxLen) (a : Ref) (h1 : a.ty.size ≤ 1000000) (h2 : a.key.size ≤ 1000000) (m : Int) : Ret Try.prog 21 [.agg (viewE v), .agg (refE a), i64 m] (.v (.bool ((viewB v && refB a) && decide (homeR v a = m)))) := by
  have e1 := c_view_Valid v hv
  have e2 : Ret Try.prog 31 [.agg (refE a)] (.v (.bool (refB a))) := c_directory_ValidRef a
  have e3 := c_ring_Home v hv a h1 h2
  generalize homeR v a = ho at *
  generalize viewB v = b1 at *
  generalize refB a = b2 at *
  refine ret_of_body (fn := Try.f21) (c := Try.f21.body.getD .skip) hm hT (by kernel_rfl) Try.func21 (by kernel_rfl) (by kernel_rfl) (by kernel_rfl) (by kernel_rfl) ?_
  repeat' ((conv => whnf); first | refine And.intro (fun h => h) ?_ | refine dcond_t (by assumption) ?_ | refine dcond_f (by assumption) ?_ | (refine dcond_intro ?_ ?_ <;> intro h) | exact .refl | refine And.intro (by kernel_rfl) ?_ | refine And.intro ⟨fun h => h, fun h => h⟩ ?_ | refine .inl ⟨_, _, DleAll_refl _, e1, ?_⟩ | refine ⟨_, _, DleAll_refl _, fun _ => e1, ?_⟩ | refine ⟨_, _, DleAll_refl _, e1, ?_⟩ | refine .inl ⟨_, _, DleAll_refl _, e2, ?_⟩ | refine ⟨_, _, DleAll_refl _, fun _ => e2, ?_⟩ | refine ⟨_, _, DleAll_refl _, e2, ?_⟩ | refine .inl ⟨_, _, DleAll_refl _, e3, ?_⟩ | refine ⟨_, _, DleAll_refl _, fun _ => e3, ?_⟩ | refine ⟨_, _, DleAll_refl _, e3, ?_⟩ | refine Exists.intro false ?_ | (refine And.intro ?_ ?_; focus (simp; done)) | fail)
theorem c_r14_Placer (v : View) (hv : v.mem.length ≤ maxLen) (a : Ref) (h1 : a.ty.size ≤ 1000000) (h2 : a.key.size ≤ 1000000) (m : Int) : Ret Try.prog 22 [.agg (viewE v), .agg (refE a), i64 m] (.v (.bool ((viewB v && refB a) && decide (homeR v a = m)))) := by
  have e1 := c_ref3_Valid v hv
  have e2 := c_r14_ValidRef a
  have e3 := c_r13_Home v hv a h1 h2
  generalize homeR v a = ho at *
  generalize viewB v = b1 at *
  generalize refB a = b2 at *
  refine ret_of_body (fn := Try.f22) (c := Try.f22.body.getD .skip) hm hT (by kernel_rfl) Try.func22 (by kernel_rfl) (by kernel_rfl) (by kernel_rfl) (by kernel_rfl) ?_
  repeat' ((conv => whnf); first | refine And.intro (fun h => h) ?_ | refine dcond_t (by assumption) ?_ | refine dcond_f (by assumption) ?_ | (refine dcond_intro ?_ ?_ <;> intro h) | exact .refl | refine And.intro (by kernel_rfl) ?_ | refine And.intro ⟨fun h => h, fun h => h⟩ ?_ | refine .inl ⟨_, _, DleAll_refl _, e1, ?_⟩ | refine ⟨_, _, DleAll_refl _, fun _ => e1, ?_⟩ | refine ⟨_, _, DleAll_refl _, e1, ?_⟩ | refine .inl ⟨_, _, DleAll_refl _, e2, ?_⟩ | refine ⟨_, _, DleAll_refl _, fun _ => e2, ?_⟩ | refine ⟨_, _, DleAll_refl _, e2, ?_⟩ | refine .inl ⟨_, _, DleAll_refl _, e3, ?_⟩ | refine ⟨_, _, DleAll_refl _, fun _ => e3, ?_⟩ | refine ⟨_, _, DleAll_refl _, e3, ?_⟩ | refine Exists.intro false ?_ | (refine And.intro ?_ ?_; focus (simp; done)) | fail)
theorem small14 {d : List Rec} (h : smallB d = true) : d.length ≤ 260 := by
  unfold smallB at h
  rw [Bool.and_eq_true, decide_eq_true_eq] at h
  omega
theorem reco_len (d : List Rec) (v : View) : (recoR d v).length ≤ d.length := by
  unfold recoR
  cases (!validB d || !viewB v)
  · simp
  · simp
theorem r6 (d : List Rec) (hd : d.length ≤ maxLen) (v : View) (hv : v.mem.length ≤ maxLen) (a : Ref) (m ep : Int) : Ret Try.prog 6 [.lst 5 (d.map recE) false, .agg (viewE v), .agg (refE a), i64 m, i64 ep] (.v (.bool true)) := by
  have e0 := c_law14_Small d hd
  have s1 := small14 (d := d)
  generalize smallB d = b1 at *
  refine ret_of_body (fn := Try.f6) (c := Try.f6.body.getD .skip) hm hT (by kernel_rfl) Try.func6 (by kernel_rfl) (by kernel_rfl) (by kernel_rfl) (by kernel_rfl) ?_
  repeat' ((conv => whnf); first | refine And.intro (fun h => h) ?_ | refine dcond_t (by assumption) ?_ | refine dcond_f (by assumption) ?_ | (refine dcond_intro ?_ ?_ <;> intro h) | exact .refl | refine And.intro (by kernel_rfl) ?_ | refine And.intro ⟨fun h => h, fun h => h⟩ ?_ | refine .inl ⟨_, _, DleAll_refl _, c_law14_awake, ?_⟩ | refine ⟨_, _, DleAll_refl _, fun _ => c_law14_awake, ?_⟩ | refine ⟨_, _, DleAll_refl _, c_law14_awake, ?_⟩ | refine .inl ⟨_, _, DleAll_refl _, e0, ?_⟩ | refine ⟨_, _, DleAll_refl _, fun _ => e0, ?_⟩ | refine ⟨_, _, DleAll_refl _, e0, ?_⟩ | refine Exists.intro false ?_ | (refine And.intro ?_ ?_; focus (simp; done)) | fail)
  simp only [Bool.or_eq_false_iff, Bool.not_eq_false', decide_eq_false_iff_not, List.length_map] at h
  obtain ⟨⟨⟨hb1, hm40⟩, ha1⟩, ha2⟩ := h
  have s1 := s1 hb1
  clear e0
  have e1 := c_directory_Reconcile d hd v hv
  have e2 := c_r14_Reconcile d (by omega) v hv
  have hrl := reco_len d v
  have e4 : Ret Try.prog 16 [.lst 5 (d.map recE) false, .agg (refE a), i64 m, i64 ep] (i64 (fenceE d a m ep)) := c_directory_Fence d hd a m ep
  have e5 := c_r14_Fence d (by omega) a m ep
  have e6 := c_directory_Placer v hv a (by omega) (by omega) m
  have e7 := c_r14_Placer v hv a (by omega) (by omega) m
  generalize recoR d v = R at *
  have e3 := c_ref14_Same R R (by simp only [maxLen]; omega)
  rw [same_refl] at e3
  obtain ⟨tr, htr⟩ : ∃ b : Bool, b = true := ⟨true, rfl⟩
  rw [← htr] at e3
  generalize fenceE d a m ep = fe at *
  generalize ((viewB v && refB a) && decide (homeR v a = m)) = pl at *
  repeat' ((conv => whnf); first | refine And.intro (fun h => h) ?_ | refine dcond_t (by assumption) ?_ | refine dcond_f (by assumption) ?_ | (refine dcond_intro ?_ ?_ <;> intro h) | exact .refl | refine And.intro (by kernel_rfl) ?_ | refine And.intro ⟨fun h => h, fun h => h⟩ ?_ | refine .inl ⟨_, _, DleAll_refl _, e1, ?_⟩ | refine ⟨_, _, DleAll_refl _, fun _ => e1, ?_⟩ | refine ⟨_, _, DleAll_refl _, e1, ?_⟩ | refine .inl ⟨_, _, DleAll_refl _, e2, ?_⟩ | refine ⟨_, _, DleAll_refl _, fun _ => e2, ?_⟩ | refine ⟨_, _, DleAll_refl _, e2, ?_⟩ | refine .inl ⟨_, _, DleAll_refl _, e3, ?_⟩ | refine ⟨_, _, DleAll_refl _, fun _ => e3, ?_⟩ | refine ⟨_, _, DleAll_refl _, e3, ?_⟩ | refine .inl ⟨_, _, DleAll_refl _, e4, ?_⟩ | refine ⟨_, _, DleAll_refl _, fun _ => e4, ?_⟩ | refine ⟨_, _, DleAll_refl _, e4, ?_⟩ | refine .inl ⟨_, _, DleAll_refl _, e5, ?_⟩ | refine ⟨_, _, DleAll_refl _, fun _ => e5, ?_⟩ | refine ⟨_, _, DleAll_refl _, e5, ?_⟩ | refine .inl ⟨_, _, DleAll_refl _, e6, ?_⟩ | refine ⟨_, _, DleAll_refl _, fun _ => e6, ?_⟩ | refine ⟨_, _, DleAll_refl _, e6, ?_⟩ | refine .inl ⟨_, _, DleAll_refl _, e7, ?_⟩ | refine ⟨_, _, DleAll_refl _, fun _ => e7, ?_⟩ | refine ⟨_, _, DleAll_refl _, e7, ?_⟩ | refine Exists.intro false ?_ | (refine And.intro ?_ ?_; focus (simp; done)) | fail)
  all_goals (conv => whnf)
  refine dle_bool ?_
  simp [htr]
theorem dat_ref {n : Nat} {r : List DV} (h : Dat tt (n + 2) 27 r) : ∃ x : Ref, r = refE x := by
  obtain ⟨_, _, rfl, ⟨s, rfl, _⟩, _, _, rfl, ⟨s2, rfl, _⟩, rfl⟩ := h
  exact ⟨⟨s, s2⟩, rfl⟩
theorem dat_rec {n : Nat} {r : List DV} (h : Dat tt (n + 3) 36 r) : ∃ x : Rec, r = recE x := by
  obtain ⟨_, _, rfl, hr, _, _, rfl, ⟨m, rfl, _⟩, _, _, rfl, ⟨e, rfl, _⟩, _, _, rfl, ⟨t, rfl, _⟩, rfl⟩ := h
  obtain ⟨x, rfl⟩ := dat_ref (n := n) hr
  exact ⟨⟨x, m, e, t⟩, rfl⟩
theorem dat_recs {n : Nat} {r : List DV} (h : Dat tt (n + 4) 22 r) : ∃ d : List Rec, r = [.lst 5 (d.map recE) false] ∧ d.length ≤ maxLen := by
  obtain ⟨es, rfl, hl, hes⟩ := h
  obtain ⟨d, rfl, _⟩ := list_data (f := recE) (Q := fun _ => True) (fun r hr => (dat_rec (n := n) (hes r hr)).imp fun _ e => ⟨e, trivial⟩)
  exact ⟨d, rfl, by simpa using hl⟩
theorem law6 (dvs : List DV) (h : DatAll tt 6 [22, 25, 27, 3, 3] dvs) : Ret Try.prog 6 dvs (.v (.bool true)) := by
  obtain ⟨a1, _, rfl, h1, a2, _, rfl, h2, a3, _, rfl, h3, _, _, rfl, ⟨m, rfl, _⟩, _, _, rfl, ⟨e, rfl, _⟩, rfl⟩ := h
  obtain ⟨d, rfl, hd⟩ := dat_recs (n := 2) h1
  obtain ⟨v, rfl, hv⟩ := dat_view (n := 3) h2
  obtain ⟨a, rfl⟩ := dat_ref (n := 4) h3
  exact r6 d hd v hv a m e
end Go.Proofs.Ythdpjinchanceaa

set_option linter.unusedSimpArgs false
set_option linter.unusedVariables false
set_option maxRecDepth 100000
namespace Go.Proofs.Ythdpjinchanceaa
open Go.Lift
/-! DirSingle: the plain law -/
theorem bl_total : ∀ {a b : List UInt8}, Op.bytesLess a b = false → a ≠ b → Op.bytesLess b a = true
  | [], [], _, h => absurd rfl h
  | [], _ :: _, h, _ => by simp [Op.bytesLess] at h
  | _ :: _, [], _, _ => by simp [Op.bytesLess]
  | x :: a, y :: b, h, hn => by
    simp only [Op.bytesLess, Bool.or_eq_false_iff, Bool.and_eq_false_iff, decide_eq_false_iff_not, beq_eq_false_iff_ne] at h
    simp only [Op.bytesLess, Bool.or_eq_true, Bool.and_eq_true, decide_eq_true_eq, beq_iff_eq]
    by_cases hxy : x = y
    · subst hxy
      refine .inr ⟨rfl, bl_total (h.2.resolve_left (fun h => h rfl)) (fun e => hn (by rw [e]))⟩
    · left
      have h1 := h.1
      rw [UInt8.lt_iff_toNat_lt] at h1 ⊢
      have : x.toNat ≠ y.toNat := fun e => hxy (UInt8.toNat_inj.1 e)
      omega
theorem ba_ext {a b : ByteArray} (h : a.toList = b.toList) : a = b := by
  have h1 : a.data.toList = b.data.toList := by
    rw [ByteArray.toList_eq, ByteArray.toList_eq] at h
    exact h
  have h2 : a.data = b.data := Array.toList_inj.1 h1
  cases a
  cases b
  simpa using h2
theorem less_total {a b : Ref} (h : lessB a b = false) (hn : a ≠ b) : lessB b a = true := by
  simp only [lessB, Bool.or_eq_false_iff, Bool.and_eq_false_iff, decide_eq_false_iff_not] at h
  simp only [lessB, Bool.or_eq_true, Bool.and_eq_true, decide_eq_true_eq]
  by_cases ht : a.ty = b.ty
  · right
    refine ⟨ht.symm, bl_total (h.2.resolve_left (fun h => h ht)) (fun e => hn ?_)⟩
    cases a
    cases b
    have := ba_ext e
    simp_all
  · exact .inl (bl_total h.1 (fun e => ht (ba_ext e)))
theorem check_zero {n : Nat} {v : View} {c : Cmd} {r : Rec} {f : Bool} (h : checkE n v c r f = 0) :
    (c.mem ≠ 0 → inB v.mem c.mem = true) ∧ (c.kind ≠ 1 → f = true ∧ r.mem ≠ 0) ∧ (c.kind = 1 → f = false ∨ r.mem = 0) ∧ (c.kind = 3 → r.mem ≠ c.mem) ∧ (c.kind = 4 → r.tgt ≠ 0 ∧ inB v.mem r.tgt = true) ∧ (c.kind = 1 ∨ c.kind = 4 → r.ep ≠ 1099511627776) ∧ (f = false → n ≠ 200) := by
  simp only [checkE, Bool.cond_eq_ite] at h
  split at h
  · omega
  split at h
  · omega
  split at h
  · omega
  split at h
  · omega
  split at h
  · omega
  split at h
  · omega
  split at h
  · omega
  split at h
  · omega
  rename_i h1 h2 h3 h4 h5 h6 h7 h8
  simp at h1 h2 h3 h4 h5 h6 h7 h8
  refine ⟨fun h => ?_, fun h => ?_, fun h => ?_, fun h => ?_, fun h => ?_, fun h => ?_, fun h => ?_⟩
  · exact h1.1 h
  · exact ⟨(h1.2 h).1, (h1.2 h).2⟩
  · rcases hf : f with _ | _
    · exact .inl rfl
    · exact .inr (h2 h hf)
  · exact (h4 h).2
  · exact ⟨h5 (.inl h), h6 h⟩
  · exact h7 h
  · have := h8 h
    omega

/-- an applied command, taken apart -/
theorem apply_full {d : List Rec} {v : View} {c : Cmd} (h : (applyR d v c).2 = 0) : cmdB c = true ∧ viewB v = true ∧ checkE d.length v c (findR d c.ref).1 (findR d c.ref).2 = 0 := by
  unfold applyR at h
  cases h1 : (!validB d || !viewB v || !cmdB c) with
  | true => simp [h1] at h
  | false =>
    simp only [Bool.or_eq_false_iff, Bool.not_eq_false'] at h1
    refine ⟨h1.2, h1.1.2, ?_⟩
    cases h2 : (!decide (checkE d.length v c (findR d c.ref).1 (findR d c.ref).2 = 0)) with
    | true =>
      have h3 : (!validB d || !viewB v || !cmdB c) = false := by simp [h1]
      simp only [h3, h2, cond_true, cond_false] at h
      exact h
    | false => simpa using h2
/-- where the record of a name stands, or would -/
theorem spot {d : List Rec} (hv : validB d = true) (r : Ref) : (∃ j, ∃ hj : j < d.length, d[j].ref = r ∧ kOf d r = j ∧ dropAt d r = j + 1 ∧ findR d r = (d[j], true)) ∨ (dropAt d r = kOf d r ∧ (∀ y ∈ d, y.ref ≠ r) ∧ findR d r = (zeroR, false)) := by
  cases hidx : idxO d r with
  | none =>
    right
    refine ⟨by simp [dropAt, findR, hidx], fun y hy he => ?_, by simp [findR, hidx, zeroR]⟩
    have := List.findIdx?_eq_none_iff.1 hidx y hy
    rw [refEq_iff.2 he] at this
    cases this
  | some j =>
    left
    obtain ⟨hj, hr⟩ := idx_some hidx
    have hk := kOf_found hv hidx
    exact ⟨j, hj, hr, hk, by simp [dropAt, findR, hidx, hk], by simp [findR, hidx, hj]⟩
theorem rest_ne {d : List Rec} (hv : validB d = true) {r : Ref} {z : Rec} (hz : z ∈ d.take (kOf d r) ∨ z ∈ d.drop (dropAt d r)) : z.ref ≠ r := by
  intro he
  rcases spot hv r with ⟨j, hj, hr, hk, hd, hf⟩ | ⟨hd, hn, hf⟩
  · have no : ∀ i (hi : i < d.length), d[i].ref = r → i = j := fun i hi h => by
      have h1 := idx_only hv hi
      rw [h, ← hr, idx_only hv hj] at h1
      cases h1; rfl
    rcases hz with hz | hz
    · obtain ⟨i, hi, rfl⟩ := List.getElem_of_mem hz
      simp only [List.length_take] at hi
      rw [List.getElem_take] at he
      have := no i (by omega) he
      omega
    · obtain ⟨i, hi, rfl⟩ := List.getElem_of_mem hz
      simp only [List.length_drop] at hi
      rw [List.getElem_drop] at he
      have := no _ (by omega) he
      omega
  · rcases hz with hz | hz
    · exact hn z (List.mem_of_mem_take hz) he
    · exact hn z (List.mem_of_mem_drop hz) he
theorem find_self {d : List Rec} {v : View} {c : Cmd} (h : (applyR d v c).2 = 0) : findR (applyR d v c).1 c.ref = (chgR (findR d c.ref).1 c, true) := by
  obtain ⟨hv, hx⟩ := apply_ok h
  rw [hx]
  refine findR_only (by simp) (chg_ref _ _) (fun z hz hr => ?_)
  simp only [List.mem_append, List.mem_singleton] at hz
  rcases hz with (hz | hz) | hz
  · exact absurd hr (rest_ne hv (.inl hz))
  · exact hz
  · exact absurd hr (rest_ne hv (.inr hz))
theorem find_none {x : List Rec} {r : Ref} (h : ∀ y ∈ x, y.ref ≠ r) : findR x r = (zeroR, false) := by
  have : idxO x r = none := List.findIdx?_eq_none_iff.2 fun y hy => by
    cases hq : refEq y.ref r with
    | true => exact absurd (refEq_iff.1 hq) (h y hy)
    | false => rfl
  simp [findR, this, zeroR]
theorem find_else {d : List Rec} {v : View} {c : Cmd} (h : (applyR d v c).2 = 0) {r : Ref} (hr : r ≠ c.ref) : findR (applyR d v c).1 r = findR d r := by
  obtain ⟨hv, hx⟩ := apply_ok h
  rcases spot hv r with ⟨j, hj, he, hk, hd, hf⟩ | ⟨hd, hn, hf⟩
  · rw [hf, ← he]
    exact (others_else hj h (by rw [he]; exact hr)).1
  · rw [hf, hx]
    refine find_none (fun y hy => ?_)
    simp only [List.mem_append, List.mem_singleton] at hy
    rcases hy with (hy | hy) | hy
    · exact hn y (List.mem_of_mem_take hy)
    · rw [hy, chg_ref]
      exact fun e => hr e.symm
    · exact hn y (List.mem_of_mem_drop hy)
/-- a list of records is valid: not too long, each sound, and in order -/
theorem valid_pw {d : List Rec} : validB d = true ↔ d.length ≤ 200 ∧ (∀ x ∈ d, recOk x = true) ∧ d.Pairwise fun a b => lessB a.ref b.ref = true := by
  constructor
  · intro h
    have hs := sorted h
    refine ⟨valid_len h, fun x hx => ?_, ?_⟩
    · obtain ⟨i, hi, rfl⟩ := List.getElem_of_mem hx
      simp only [validB, Bool.and_eq_true] at h
      have h := allB_true.1 h.2 i hi
      have hg : d.getD i zeroR = d[i] := by simp [hi]
      simp only [okAtR, hg, Bool.and_eq_true] at h
      exact h.1
    · rw [List.pairwise_iff_getElem]
      intro i j hi hj hij
      have := hs j hj i hij
      have hg : d.getD i zeroR = d[i] := by simp [hi]
      have hg2 : d.getD j zeroR = d[j] := by simp [hj]
      rw [hg, hg2] at this
      exact this
  · rintro ⟨h1, h2, h3⟩
    rw [List.pairwise_iff_getElem] at h3
    simp only [validB, Bool.and_eq_true]
    refine ⟨by simp; omega, allB_true.2 (fun i hi => ?_)⟩
    have hg : d.getD i zeroR = d[i] := by simp [hi]
    simp only [okAtR, hg, Bool.and_eq_true]
    refine ⟨h2 _ (List.getElem_mem hi), ?_⟩
    by_cases h0 : 0 < i
    · have hg2 : d.getD (i - 1) zeroR = d[i - 1] := by simp [show i - 1 < d.length by omega]
      rw [hg2, h3 (i - 1) i (by omega) hi (by omega)]
      simp
    · simp [h0]
theorem take_less {d : List Rec} {r : Ref} {z : Rec} (hz : z ∈ d.take (kOf d r)) : lessB z.ref r = true := by
  obtain ⟨i, hi, rfl⟩ := List.getElem_of_mem hz
  simp only [List.length_take] at hi
  rw [List.getElem_take]
  have := List.not_of_lt_findIdx (p := fun x : Rec => !lessB x.ref r) (xs := d) (i := i) (by
    show i < kOf d r
    omega)
  simpa using this
theorem drop_less {d : List Rec} (hv : validB d = true) {r : Ref} {z : Rec} (hz : z ∈ d.drop (dropAt d r)) : lessB r z.ref = true := by
  have hne := rest_ne hv (.inr hz)
  refine less_total ?_ hne
  obtain ⟨i, hi, rfl⟩ := List.getElem_of_mem hz
  simp only [List.length_drop] at hi
  rw [List.getElem_drop]
  rw [List.getElem_drop] at hne
  have hs := sorted hv
  have hda : kOf d r ≤ dropAt d r := by
    unfold dropAt
    cases (findR d r).2 <;> simp
  have hk : kOf d r < d.length := by omega
  have h1 : lessB d[kOf d r].ref r = false := by
    have := List.findIdx_getElem (p := fun x : Rec => !lessB x.ref r) (xs := d) (w := hk)
    simp only [Bool.not_eq_true'] at this
    exact this
  by_cases he : kOf d r = dropAt d r + i
  · simp only [← he]
    exact h1
  · cases hq : lessB d[dropAt d r + i].ref r with
    | false => rfl
    | true =>
      have h2 := hs (dropAt d r + i) (by omega) (kOf d r) (by omega)
      have hg : d.getD (kOf d r) zeroR = d[kOf d r] := by simp [hk]
      have hg2 : d.getD (dropAt d r + i) zeroR = d[dropAt d r + i] := by simp [show dropAt d r + i < d.length by omega]
      rw [hg, hg2] at h2
      rw [less_trans h2 hq] at h1
      cases h1
theorem ok_parts {x : Rec} : recOk x = true ↔ refB x.ref = true ∧ (1 ≤ x.ep ∧ x.ep ≤ 1099511627776) ∧ (x.mem = 0 ∨ identB x.mem = true) ∧ (x.tgt = 0 ∨ (x.mem ≠ 0 ∧ identB x.tgt = true ∧ x.tgt ≠ x.mem)) := by
  simp only [recOk, numB, Bool.and_eq_true, Bool.not_eq_true', Bool.and_eq_false_iff, Bool.not_eq_false', decide_eq_true_eq, Bool.or_eq_false_iff, decide_eq_false_iff_not]
  simp only [and_assoc]
theorem chg_ok {d : List Rec} {v : View} {c : Cmd} (h : (applyR d v c).2 = 0) : recOk (chgR (findR d c.ref).1 c) = true := by
  obtain ⟨hv, hx⟩ := apply_ok h
  obtain ⟨hc, hvv, hz⟩ := apply_full h
  obtain ⟨z1, z2, z3, z4, z5, z6, z7⟩ := check_zero hz
  have hr : (findR d c.ref).2 = true → recOk (findR d c.ref).1 = true := fun h2 => by
    rcases spot hv c.ref with ⟨j, hj, he, hk, hd, hf⟩ | ⟨hd, hn, hf⟩
    · rw [hf]
      exact (valid_pw.1 hv).2.1 _ (List.getElem_mem hj)
    · rw [hf] at h2
      cases h2
  have h0 : (findR d c.ref).2 = false → (findR d c.ref).1 = zeroR := fun h2 => by
    rcases spot hv c.ref with ⟨j, hj, he, hk, hd, hf⟩ | ⟨hd, hn, hf⟩
    · rw [hf] at h2
      cases h2
    · rw [hf]
  generalize (findR d c.ref).1 = r at *
  generalize (findR d c.ref).2 = f at *
  simp only [cmdB, Bool.and_eq_true, Bool.not_eq_true', Bool.or_eq_false_iff, Bool.not_eq_false', decide_eq_false_iff_not] at hc
  obtain ⟨⟨⟨k1, k2⟩, hrf⟩, hk⟩ := hc
  have hkind : c.kind = 1 ∨ c.kind = 2 ∨ c.kind = 3 ∨ c.kind = 4 ∨ c.kind = 5 := by omega
  have hep : c.kind = 1 ∨ c.kind = 4 → IntKind.i64.wrap (r.ep + 1) = r.ep + 1 ∧ 1 ≤ r.ep + 1 ∧ r.ep + 1 ≤ 1099511627776 := fun hkk => by
    have hne := z6 hkk
    have : 0 ≤ r.ep ∧ r.ep ≤ 1099511627776 := by
      cases f with
      | true =>
        have := (ok_parts.1 (hr rfl)).2.1
        omega
      | false =>
        rw [h0 rfl]
        decide
    exact ⟨wrap_i64 (by omega) (by omega), by omega, by omega⟩
  rcases hkind with hk1 | hk1 | hk1 | hk1 | hk1
  · obtain ⟨e1, e2, e3⟩ := hep (.inl hk1)
    simp [hk1] at hk
    simp only [chgR, hk1, decide_true, cond_true]
    rw [e1]
    exact ok_parts.2 ⟨hrf, ⟨e2, e3⟩, .inr hk.1, .inl rfl⟩
  · have hf := (z2 (by omega)).1
    obtain ⟨o1, o2, o3, o4⟩ := ok_parts.1 (hr hf)
    simp only [chgR, hk1]
    exact ok_parts.2 ⟨hrf, o2, .inl rfl, .inl rfl⟩
  · have hf := z2 (by omega)
    obtain ⟨o1, o2, o3, o4⟩ := ok_parts.1 (hr hf.1)
    simp [hk1] at hk
    simp only [chgR, hk1]
    exact ok_parts.2 ⟨hrf, o2, o3, .inr ⟨hf.2, hk.1, fun e => z4 hk1 e.symm⟩⟩
  · obtain ⟨e1, e2, e3⟩ := hep (.inr hk1)
    have hf := z2 (by omega)
    obtain ⟨o1, o2, o3, o4⟩ := ok_parts.1 (hr hf.1)
    simp only [chgR, hk1]
    show recOk ⟨c.ref, r.tgt, IntKind.i64.wrap (r.ep + 1), 0⟩ = true
    rw [e1]
    exact ok_parts.2 ⟨hrf, ⟨e2, e3⟩, .inr (o4.resolve_left (z5 hk1).1).2.1, .inl rfl⟩
  · have hf := z2 (by omega)
    obtain ⟨o1, o2, o3, o4⟩ := ok_parts.1 (hr hf.1)
    simp only [chgR, hk1]
    exact ok_parts.2 ⟨hrf, o2, o3, .inl rfl⟩
theorem apply_valid {d : List Rec} {v : View} {c : Cmd} (h : (applyR d v c).2 = 0) : validB (applyR d v c).1 = true := by
  have hok := chg_ok h
  obtain ⟨hv, hx⟩ := apply_ok h
  obtain ⟨hc, hvv, hz⟩ := apply_full h
  obtain ⟨z1, z2, z3, z4, z5, z6, z7⟩ := check_zero hz
  obtain ⟨p1, p2, p3⟩ := valid_pw.1 hv
  have hkl := kOf_le d c.ref
  rw [hx]
  refine valid_pw.2 ⟨?_, fun x hm => ?_, ?_⟩
  · rcases spot hv c.ref with ⟨j, hj, he, hk, hd, hf⟩ | ⟨hd, hn, hf⟩
    · simp only [List.length_append, List.length_take, List.length_drop, List.length_singleton]
      omega
    · rw [hf] at z7
      have := z7 rfl
      simp only [List.length_append, List.length_take, List.length_drop, List.length_singleton]
      omega
  · simp only [List.mem_append, List.mem_singleton] at hm
    rcases hm with (hm | hm) | hm
    · exact p2 x (List.mem_of_mem_take hm)
    · rw [hm]
      exact hok
    · exact p2 x (List.mem_of_mem_drop hm)
  · rw [List.append_assoc, List.pairwise_append]
    refine ⟨p3.sublist (List.take_sublist _ _), ?_, fun a ha b hb => ?_⟩
    · refine List.pairwise_cons.2 ⟨fun b hb => ?_, p3.sublist (List.drop_sublist _ _)⟩
      rw [chg_ref]
      exact drop_less hv hb
    · simp only [List.mem_append, List.mem_singleton] at hb
      rcases hb with hb | hb
      · rw [hb, chg_ref]
        exact take_less ha
      · exact less_trans (take_less ha) (drop_less hv hb)

/-- what holds of an actor's record, of what was seen of it, and of its last epoch: ahead of the check, and behind it -/
def sAt (s : List Int) (n e : Nat) : Int := s.getD (n * 64 + e) 0
def PreN (v : View) (d : List Rec) (B : Int) (s l : List Int) (n : Nat) : Prop :=
  (∀ r, findR d (actR n) = (r, true) → l.getD n 0 ≤ r.ep ∧ r.ep ≤ l.getD n 0 + 1 ∧ 1 ≤ r.ep ∧ r.ep ≤ B ∧ (r.mem ≠ 0 → (sAt s n r.ep.toNat = 0 ∨ sAt s n r.ep.toNat = r.mem) ∧ inB v.mem r.mem = true) ∧ ∀ e : Nat, r.ep < e → e < 64 → sAt s n e = 0) ∧
  ((findR d (actR n)).2 = false → l.getD n 0 = 0 ∧ ∀ e : Nat, 0 < e → e < 64 → sAt s n e = 0)
def PostN (v : View) (d : List Rec) (B : Int) (s l : List Int) (n : Nat) : Prop :=
  (∀ r, findR d (actR n) = (r, true) → l.getD n 0 = r.ep ∧ 1 ≤ r.ep ∧ r.ep ≤ B ∧ (r.mem ≠ 0 → sAt s n r.ep.toNat = r.mem ∧ inB v.mem r.mem = true) ∧ ∀ e : Nat, r.ep < e → e < 64 → sAt s n e = 0) ∧
  ((findR d (actR n)).2 = false → l.getD n 0 = 0 ∧ ∀ e : Nat, 0 < e → e < 64 → sAt s n e = 0)
theorem pre_keep {v : View} {d : List Rec} {B : Int} {s l : List Int} {n : Nat} (h : PostN v d B s l n) : PreN v d (B + 1) s l n := by
  refine ⟨fun r hr => ?_, h.2⟩
  obtain ⟨h1, h2, h3, h4, h5⟩ := h.1 r hr
  exact ⟨by omega, by omega, h2, by omega, fun hm => ⟨.inr (h4 hm).1, (h4 hm).2⟩, h5⟩
theorem pre_cmd {v : View} {d : List Rec} {B : Int} {s l : List Int} {n : Nat} {c : Cmd} (hB : 0 ≤ B ∧ B ≤ 60) (h : PostN v d B s l n) (hok : (applyR d v c).2 = 0) : PreN v (applyR d v c).1 (B + 1) s l n := by
  by_cases he : actR n = c.ref
  · have hf := find_self hok
    rw [← he] at hf
    refine ⟨fun r hr => ?_, fun hr => ?_⟩
    · rw [hf] at hr
      have hq : chgR (findR d (actR n)).1 c = r := by
        injection hr
      clear hr
      obtain ⟨hc, hvv, hz⟩ := apply_full hok
      obtain ⟨z1, z2, z3, z4, z5, z6, z7⟩ := check_zero hz
      rw [← he] at z2 z3 z4 z5 z6 z7
      have h0 : (findR d (actR n)).2 = false → (findR d (actR n)).1 = zeroR := fun h2 => by
        unfold findR at *
        cases hi : idxO d (actR n) with
        | none => rfl
        | some i =>
          rw [hi] at h2
          cases h2
      obtain ⟨P1, P2⟩ := h
      generalize findR d (actR n) = F at *
      obtain ⟨q, f⟩ := F
      clear hf
      simp only at hq z1 z2 z3 z4 z5 z6 z7 h0 P2
      simp only [cmdB, Bool.and_eq_true, Bool.not_eq_true', Bool.or_eq_false_iff, Bool.not_eq_false', decide_eq_false_iff_not] at hc
      obtain ⟨⟨⟨k1, k2⟩, hrf⟩, hk⟩ := hc
      have hkind : c.kind = 1 ∨ c.kind = 2 ∨ c.kind = 3 ∨ c.kind = 4 ∨ c.kind = 5 := by omega
      have hcase : (f = false ∧ q = zeroR ∧ c.kind = 1) ∨ f = true := by
        cases f with
        | true => exact .inr rfl
        | false =>
          refine .inl ⟨rfl, h0 rfl, ?_⟩
          by_cases hk1 : c.kind = 1
          · exact hk1
          · cases (z2 hk1).1
      rcases hcase with ⟨hff, rfl, hk1⟩ | rfl
      · have P2 := P2 hff
        have hr2 : r = ⟨c.ref, c.mem, 1, 0⟩ := by
          rw [← hq]
          simp only [chgR, hk1, decide_true, cond_true, zeroR]
          rfl
        subst hr2
        refine ⟨by simp only []; omega, by simp only []; omega, by simp only []; omega, by simp only []; omega, fun hm => ⟨.inl ?_, z1 hm⟩, fun e h1 h2 => P2.2 e (by simp only [] at h1; omega) h2⟩
        exact P2.2 1 (by omega) (by omega)
      · obtain ⟨h1, h2, h3, h4, h5⟩ := P1 q rfl
        have hw : IntKind.i64.wrap (q.ep + 1) = q.ep + 1 := wrap_i64 (by omega) (by omega)
        have up : ∀ m : Int, (m ≠ 0 → inB v.mem m = true) → r = ⟨c.ref, m, q.ep + 1, 0⟩ → l.getD n 0 ≤ r.ep ∧ r.ep ≤ l.getD n 0 + 1 ∧ 1 ≤ r.ep ∧ r.ep ≤ B + 1 ∧ (r.mem ≠ 0 → (sAt s n r.ep.toNat = 0 ∨ sAt s n r.ep.toNat = r.mem) ∧ inB v.mem r.mem = true) ∧ ∀ e : Nat, r.ep < e → e < 64 → sAt s n e = 0 := fun m hm hr2 => by
          subst hr2
          refine ⟨by simp only []; omega, by simp only []; omega, by simp only []; omega, by simp only []; omega, fun hm2 => ⟨.inl ?_, hm hm2⟩, fun e g1 g2 => h5 e (by simp only [] at g1; omega) g2⟩
          show sAt s n (q.ep + 1).toNat = 0
          exact h5 _ (by omega) (by omega)
        have same : ∀ m t : Int, (m = 0 ∨ m = q.mem) → r = ⟨c.ref, m, q.ep, t⟩ → l.getD n 0 ≤ r.ep ∧ r.ep ≤ l.getD n 0 + 1 ∧ 1 ≤ r.ep ∧ r.ep ≤ B + 1 ∧ (r.mem ≠ 0 → (sAt s n r.ep.toNat = 0 ∨ sAt s n r.ep.toNat = r.mem) ∧ inB v.mem r.mem = true) ∧ ∀ e : Nat, r.ep < e → e < 64 → sAt s n e = 0 := fun m t hm hr2 => by
          subst hr2
          refine ⟨by simp only []; omega, by simp only []; omega, by simp only []; omega, by simp only []; omega, fun hm2 => ?_, h5⟩
          have hm2 : m ≠ 0 := hm2
          have hm3 := hm.resolve_left hm2
          subst hm3
          exact ⟨.inr (h4 hm2).1, (h4 hm2).2⟩
        rcases hkind with hk1 | hk1 | hk1 | hk1 | hk1
        · exact up c.mem z1 (by rw [← hq]; simp only [chgR, hk1, decide_true, cond_true, hw])
        · exact same 0 0 (.inl rfl) (by rw [← hq]; simp only [chgR, hk1]; rfl)
        · exact same q.mem c.mem (.inr rfl) (by rw [← hq]; simp only [chgR, hk1]; rfl)
        · exact up q.tgt (fun _ => (z5 hk1).2) (by rw [← hq]; simp only [chgR, hk1]; rw [hw]; rfl)
        · exact same q.mem 0 (.inr rfl) (by rw [← hq]; simp only [chgR, hk1]; rfl)
    · rw [hf] at hr
      cases hr
  · have hf := find_else hok he
    have := pre_keep h
    unfold PreN at *
    rw [hf]
    exact this

theorem find_map {d : List Rec} {f : Rec → Rec} (hf : ∀ x, (f x).ref = x.ref) (r : Ref) : ((findR d r).2 = false → (findR (d.map f) r).2 = false) ∧ ∀ q, findR d r = (q, true) → findR (d.map f) r = (f q, true) := by
  have hi : idxO (d.map f) r = idxO d r := by
    unfold idxO
    rw [List.findIdx?_map]
    congr 1
    funext x
    simp [hf]
  unfold findR
  rw [hi]
  cases h : idxO d r with
  | none => exact ⟨fun _ => rfl, fun q hq => (by cases hq)⟩
  | some i =>
    obtain ⟨hlt, _⟩ := idx_some h
    refine ⟨fun h => (by cases h), fun q hq => ?_⟩
    simp [hlt] at hq ⊢
    rw [hq]
theorem pre_view {v v' : View} {d : List Rec} {B : Int} {s l : List Int} {n : Nat} (h : PostN v d B s l n) (hd : validB d = true) (hv : viewB v' = true) : PreN v' (recoR d v') (B + 1) s l n := by
  have hr : recoR d v' = d.map (recFix v') := by simp [recoR, hd, hv]
  rw [hr]
  have hfm := find_map (d := d) (fix_ref v') (actR n)
  obtain ⟨P1, P2⟩ := h
  refine ⟨fun r hr => ?_, fun hr => ?_⟩
  · cases hf : findR d (actR n) with
    | mk q f =>
      cases f with
      | false =>
        have := hfm.1 (by rw [hf])
        rw [hr] at this
        cases this
      | true =>
        rw [hfm.2 q hf] at hr
        have hr : recFix v' q = r := by injection hr
        obtain ⟨h1, h2, h3, h4, h5⟩ := P1 q hf
        have he : r.ep = q.ep ∧ (r.mem ≠ 0 → r.mem = q.mem ∧ inB v'.mem q.mem = true) := by
          rw [← hr]
          unfold recFix
          cases g1 : inB v'.mem q.mem <;> cases g2 : inB v'.mem q.tgt <;> cases g3 : inB v'.mem 0 <;> simp [g1, g2, g3]
        rw [he.1]
        exact ⟨by omega, by omega, h2, by omega, fun hm => by
          obtain ⟨e1, e2⟩ := he.2 hm
          rw [e1] at hm ⊢
          exact ⟨.inr (h4 hm).1, e2⟩, h5⟩
  · cases hf : findR d (actR n) with
    | mk q f =>
      cases f with
      | false => exact P2 (by rw [hf])
      | true =>
        rw [hfm.2 q hf] at hr
        cases hr
theorem reco_valid {d : List Rec} {v : View} (hd : validB d = true) (hv : viewB v = true) : validB (recoR d v) = true := by
  have hr : recoR d v = d.map (recFix v) := by simp [recoR, hd, hv]
  rw [hr]
  exact fix_valid hd
theorem ref_act (n : Nat) : refB (actR n) = true := by
  simp only [refB, actR]
  rfl
theorem fence_zero {d : List Rec} {n : Nat} {x : Rec} (hd : validB d = true) (hf : findR d (actR n) = (x, true)) (hm : x.mem ≠ 0) (m ep : Int) : fenceE d (actR n) m ep = 0 ↔ x.mem = m ∧ x.ep = ep := by
  simp only [fenceE, hd, ref_act, hf]
  by_cases h1 : x.mem = m <;> by_cases h2 : x.ep = ep <;> simp [hm, h1, h2]
  · rw [← h1]
    simp [hm]
  · rw [← h1]
    simp [hm]
/-- the members that a view change keeps -/
def selP (b : Nat) (k : Nat) : Bool := decide (0 < (b + k) % 3) || decide (k = 0)
def sel (b : Nat) (l : List Int) : Nat → List Int
  | 0 => []
  | k + 1 => bif selP b k then sel b l k ++ [l.getD k 0] else sel b l k
theorem sel_sub (b : Nat) (l : List Int) : ∀ k, k ≤ l.length → (sel b l k).Sublist (l.take k)
  | 0, _ => by simp [sel]
  | k + 1, h => by
    have ih := sel_sub b l k (by omega)
    have hg : l.getD k 0 = l[k] := by simp [show k < l.length by omega]
    rw [List.take_succ_eq_append_getElem (by omega)]
    simp only [sel, hg]
    cases selP b k with
    | true => exact List.Sublist.append ih (List.Sublist.refl _)
    | false => exact List.Sublist.trans ih (List.sublist_append_left _ _)
theorem sel_len (b : Nat) (l : List Int) (k : Nat) (h : k ≤ l.length) : (sel b l k).length ≤ k := by
  have := (sel_sub b l k h).length_le
  simp at this
  omega
theorem sel_pos (b : Nat) (l : List Int) : ∀ k, 1 ≤ k → 1 ≤ (sel b l k).length
  | 0, h => absurd h (by omega)
  | 1, _ => by simp [sel, selP]
  | k + 2, _ => by
    have := sel_pos b l (k + 1) (by omega)
    rw [sel]
    cases selP b (k + 1)
    · simpa using this
    · simp
theorem sel_ids {b : Nat} {l : List Int} (h : idsB l 16 = true) : idsB (sel b l l.length) 16 = true := by
  obtain ⟨⟨h1, h2⟩, h3, h4⟩ := ids_pw.1 h
  have hs := sel_sub b l l.length (Nat.le_refl _)
  rw [List.take_length] at hs
  have hp := sel_pos b l l.length (by omega)
  have hl := hs.length_le
  exact ids_pw.2 ⟨⟨by omega, by omega⟩, h3.sublist hs, fun x hx => h4 x (hs.subset hx)⟩
/-- what the check does to what was seen -/
theorem set_at {s : List Int} {i : Nat} {x : Int} (h : i < s.length) (j : Nat) : (s.set i x).getD j 0 = if j = i then x else s.getD j 0 := by
  simp only [List.getD_eq_getElem?_getD, List.getElem?_set]
  by_cases hj : j = i
  · subst hj
    simp [h]
  · rw [if_neg (fun e : i = j => hj e.symm), if_neg hj]
theorem post_no {v : View} {d : List Rec} {B : Int} {s l : List Int} {n : Nat} (h : PreN v d B s l n) (hf : (findR d (actR n)).2 = false) : PostN v d B s l n :=
  ⟨fun r hr => (by rw [hr] at hf; cases hf), h.2⟩
theorem post_vac {v : View} {d : List Rec} {B : Int} {s l : List Int} {n : Nat} {r : Rec} (hl : n < l.length) (h : PreN v d B s l n) (hf : findR d (actR n) = (r, true)) (hm : r.mem = 0) : PostN v d B s (l.set n r.ep) n := by
  obtain ⟨h1, h2, h3, h4, h5, h6⟩ := h.1 r hf
  refine ⟨fun q hq => ?_, fun hr => by rw [hf] at hr; cases hr⟩
  rw [hf] at hq
  have hq : r = q := by injection hq
  subst hq
  exact ⟨by rw [set_at hl]; simp, h3, h4, fun h => absurd hm h, h6⟩
theorem post_held {v : View} {d : List Rec} {B : Int} {s l : List Int} {n : Nat} {r : Rec} (hl : n < l.length) (hs : n * 64 + r.ep.toNat < s.length) (h : PreN v d B s l n) (hf : findR d (actR n) = (r, true)) (hm : r.mem ≠ 0) : PostN v d B (s.set (n * 64 + r.ep.toNat) r.mem) (l.set n r.ep) n := by
  obtain ⟨h1, h2, h3, h4, h5, h6⟩ := h.1 r hf
  refine ⟨fun q hq => ?_, fun hr => by rw [hf] at hr; cases hr⟩
  rw [hf] at hq
  have hq : r = q := by injection hq
  subst hq
  refine ⟨by rw [set_at hl]; simp, h3, h4, fun h => ⟨?_, (h5 h).2⟩, fun e g1 g2 => ?_⟩
  · unfold sAt
    rw [set_at hs]
    simp
  · have := h6 e g1 g2
    unfold sAt at *
    rw [set_at hs, if_neg (by omega)]
    exact this
theorem post_congr {v : View} {d : List Rec} {B : Int} {s s' l l' : List Int} {m : Nat} (hB : B ≤ 61) (hl : l'.getD m 0 = l.getD m 0) (hs : ∀ f : Nat, f < 64 → sAt s' m f = sAt s m f) (h : PostN v d B s l m) : PostN v d B s' l' m := by
  refine ⟨fun r hr => ?_, fun hr => ?_⟩
  · obtain ⟨h1, h2, h3, h4, h5⟩ := h.1 r hr
    refine ⟨by rw [hl]; exact h1, h2, h3, fun hm => ?_, fun e g1 g2 => by rw [hs e g2]; exact h5 e g1 g2⟩
    rw [hs _ (by omega)]
    exact h4 hm
  · obtain ⟨h1, h2⟩ := h.2 hr
    exact ⟨by rw [hl]; exact h1, fun e g1 g2 => by rw [hs e g2]; exact h2 e g1 g2⟩
theorem pre_congr {v : View} {d : List Rec} {B : Int} {s s' l l' : List Int} {m : Nat} (hB : B ≤ 61) (hl : l'.getD m 0 = l.getD m 0) (hs : ∀ f : Nat, f < 64 → sAt s' m f = sAt s m f) (h : PreN v d B s l m) : PreN v d B s' l' m := by
  refine ⟨fun r hr => ?_, fun hr => ?_⟩
  · obtain ⟨h0, h1, h2, h3, h4, h5⟩ := h.1 r hr
    refine ⟨by rw [hl]; exact h0, by rw [hl]; exact h1, h2, h3, fun hm => ?_, fun e g1 g2 => by rw [hs e g2]; exact h5 e g1 g2⟩
    rw [hs _ (by omega)]
    exact h4 hm
  · obtain ⟨h1, h2⟩ := h.2 hr
    exact ⟨by rw [hl]; exact h1, fun e g1 g2 => by rw [hs e g2]; exact h2 e g1 g2⟩
theorem set_else {s : List Int} {i j : Nat} {x : Int} (h : j ≠ i) : (s.set i x).getD j 0 = s.getD j 0 := by
  simp only [List.getD_eq_getElem?_getD, List.getElem?_set]
  rw [if_neg (fun e : i = j => h e.symm)]
/-- the inner loop's invariant: the actors before k are checked, the others not yet -/
def MidN (v : View) (d : List Rec) (B : Int) (s l : List Int) (k : Nat) : Prop :=
  ∀ m : Nat, m < 4 → (m < k → PostN v d B s l m) ∧ (k ≤ m → PreN v d B s l m)
theorem mid_no {v : View} {d : List Rec} {B : Int} {s l : List Int} {k : Nat} (h : MidN v d B s l k) (hk : k < 4) (hf : (findR d (actR k)).2 = false) : MidN v d B s l (k + 1) := fun m hm => by
  refine ⟨fun h1 => ?_, fun h1 => (h m hm).2 (by omega)⟩
  by_cases he : m = k
  · subst he
    exact post_no ((h m hm).2 (Nat.le_refl _)) hf
  · exact (h m hm).1 (by omega)
theorem mid_vac {v : View} {d : List Rec} {B : Int} {s l : List Int} {k : Nat} {r : Rec} (hB : B ≤ 61) (hl : l.length = 4) (h : MidN v d B s l k) (hk : k < 4) (hf : findR d (actR k) = (r, true)) (hm0 : r.mem = 0) : MidN v d B s (l.set k r.ep) (k + 1) := fun m hm => by
  refine ⟨fun h1 => ?_, fun h1 => pre_congr hB (set_else (by omega)) (fun _ _ => rfl) ((h m hm).2 (by omega))⟩
  by_cases he : m = k
  · subst he
    exact post_vac (by omega) ((h m hm).2 (Nat.le_refl _)) hf hm0
  · exact post_congr hB (set_else he) (fun _ _ => rfl) ((h m hm).1 (by omega))
theorem mid_held {v : View} {d : List Rec} {B : Int} {s l : List Int} {k : Nat} {r : Rec} (hB : B ≤ 61) (hl : l.length = 4) (hs : s.length = 256) (h : MidN v d B s l k) (hk : k < 4) (hf : findR d (actR k) = (r, true)) (hm0 : r.mem ≠ 0) : MidN v d B (s.set (k * 64 + r.ep.toNat) r.mem) (l.set k r.ep) (k + 1) := fun m hm => by
  obtain ⟨p1, p2, p3, p4, p5, p6⟩ := ((h k hk).2 (Nat.le_refl _)).1 r hf
  have hse : m ≠ k → ∀ f : Nat, f < 64 → sAt (s.set (k * 64 + r.ep.toNat) r.mem) m f = sAt s m f := fun hmk f hf => set_else (by omega)
  refine ⟨fun h1 => ?_, fun h1 => pre_congr hB (set_else (by omega)) (hse (by omega)) ((h m hm).2 (by omega))⟩
  by_cases he : m = k
  · subst he
    exact post_held (by omega) (by omega) ((h m hm).2 (Nat.le_refl _)) hf hm0
  · exact post_congr hB (set_else he) (hse he) ((h m hm).1 (by omega))
theorem dset_set {l : List Int} {i : Nat} {x : Int} : dset (l.map i64) i (i64 x) = (l.set i x).map i64 := by
  induction l generalizing i with
  | nil => cases i <;> rfl
  | cons a l ih =>
    cases i with
    | zero => rfl
    | succ i => simp only [List.map_cons, dset, ih, List.set_cons_succ]
end Go.Proofs.Ythdpjinchanceaa

set_option linter.unusedSimpArgs false
set_option linter.unusedVariables false
set_option maxRecDepth 100000
namespace Go.Proofs.Ythdpjinchanceaa
open Go.Lift
/-! DirSingle: the walk -/
structure Stp where
  kd : Nat
  ac : Nat
  mb : Nat
  ep : Nat
def u8 (n : Nat) : DV := .v (.int .u8 n)
def stpE (x : Stp) : List DV := [u8 x.kd, u8 x.ac, u8 x.mb, u8 x.ep]
def okS (x : Stp) : Prop := x.kd ≤ 255 ∧ x.ac ≤ 255 ∧ x.mb ≤ 255 ∧ x.ep ≤ 255
/-- what the outer loop keeps -/
structure LS where
  v : View
  d : List Rec
  s : List Int
  l : List Int
def InvL (ms : List Int) (i : Nat) (x : LS) : Prop :=
  viewB x.v = true ∧ 0 ≤ x.v.num ∧ x.v.num ≤ i ∧ validB x.d = true ∧ x.s.length = 256 ∧ x.l.length = 4 ∧ ∀ n, n < 4 → PostN x.v x.d i x.s x.l n
theorem bnd_ints (L : List LObj) (s : List Int) : (s.map i64).all (bnd0 L) = true := by
  rw [List.all_eq_true]
  intro x hx
  obtain ⟨y, _, rfl⟩ := List.mem_map.1 hx
  rfl
theorem bndok {t1 t2 t3 : TypeId} {c : List DV} {s la : List Int} {E : List (Nat × DV)} {R : List LObj}
    (h1 : bndE (.cells t1 c :: .cells t2 (s.map i64) :: .cells t3 (la.map i64) :: R) E = true)
    (h0 : c.all (bnd0 (.cells t1 c :: .cells t2 (s.map i64) :: .cells t3 (la.map i64) :: R)) = true)
    (h2 : bndL (.cells t1 c :: .cells t2 (s.map i64) :: .cells t3 (la.map i64) :: R) R = true) :
    (bndE (.cells t1 c :: .cells t2 (s.map i64) :: .cells t3 (la.map i64) :: R) E && bndL (.cells t1 c :: .cells t2 (s.map i64) :: .cells t3 (la.map i64) :: R) (.cells t1 c :: .cells t2 (s.map i64) :: .cells t3 (la.map i64) :: R)) = true := by
  simp only [bndL, h1, h0, h2, bnd_ints, Bool.and_self]
theorem sub_ints (i : Nat) (r : DV) (s : List Int) : (s.map i64).map (sub0 i r) = s.map i64 := by
  rw [List.map_map]
  rfl
theorem ole_cells {t : TypeId} {cs ds : List DV} (h : cs = ds) : ole (.cells t cs) (.cells t ds) := by subst h; exact .refl
theorem spl {l : List Int} {o i : Nat} {x : Int} (h : o = i) : dsplice (l.map i64) o [i64 x] = (l.set i x).map i64 := by
  subst h
  exact dset_set
theorem dle_u8 {k : Nat} (h : k + 1 ≤ 255) : dle (.v (.int .u8 (IntKind.u8.wrap ((k : Int) + 1)))) (u8 (k + 1)) := by
  rw [wrap_u8 (by omega) (by omega)]
  exact .refl
set_option maxHeartbeats 4000000 in
theorem r4 (ms : List Int) (hms : ms.length ≤ maxLen) (l : List Stp) (hl : l.length ≤ maxLen) (hok : ∀ x ∈ l, okS x) : Ret Try.prog 4 [.lst 1 (ms.map intE) false, .lst 4 (l.map stpE) false] (.v (.bool true)) := by
  refine ret_of_body (fn := Try.f4) (c := Try.f4.body.getD .skip) hm hT (by kernel_rfl) Try.func4 (by kernel_rfl) (by kernel_rfl) (by kernel_rfl) (by kernel_rfl) ?_
  repeat' ((conv => whnf); first | refine And.intro (fun h => h) ?_ | refine dcond_t (by assumption) ?_ | refine dcond_f (by assumption) ?_ | (refine dcond_intro ?_ ?_ <;> intro h) | exact .refl | refine And.intro (by kernel_rfl) ?_ | refine And.intro ⟨fun h => h, fun h => h⟩ ?_ | refine .inl ⟨_, _, DleAll_refl _, c_law14_awake, ?_⟩ | refine ⟨_, _, DleAll_refl _, fun _ => c_law14_awake, ?_⟩ | refine ⟨_, _, DleAll_refl _, c_law14_awake, ?_⟩ | refine .inl ⟨_, _, DleAll_refl _, c_ref3_ValidMembers _ hms, ?_⟩ | refine ⟨_, _, DleAll_refl _, fun _ => c_ref3_ValidMembers _ hms, ?_⟩ | refine ⟨_, _, DleAll_refl _, c_ref3_ValidMembers _ hms, ?_⟩ | refine Exists.intro false ?_ | (refine And.intro ?_ ?_; focus (simp; done)) | fail)
  all_goals (conv => whnf)
  have h0 := h
  clear h
  simp only [List.length_map, Bool.or_eq_false_iff, Bool.not_eq_false', decide_eq_false_iff_not] at h0
  obtain ⟨hid, hl60⟩ := h0
  have hl60 : l.length ≤ 60 := by omega
  obtain ⟨tr, htr⟩ : ∃ b : Bool, b = true := ⟨true, rfl⟩
  have hlms : 1 ≤ ms.length ∧ ms.length ≤ 16 := by
    have := (ids_pw.1 hid).1
    omega
  have zs : ∀ n e : Nat, sAt (List.replicate 256 0) n e = 0 := fun n e => by
    unfold sAt
    simp only [List.getD_eq_getElem?_getD, List.getElem?_replicate]
    split <;> rfl
  refine ⟨Nat × LS, fun x => ⟨[(0, .lst 1 (ms.map intE) false), (1, .lst 4 (l.map stpE) false), (5, .lp 0 0), (6, .lst 5 (x.2.d.map recE) false), (7, .lp 1 0), (8, .lp 2 0), (9, i64 x.1)], [.cells 25 (viewE x.2.v), .cells 44 (x.2.s.map i64), .cells 45 (x.2.l.map i64)]⟩, fun x => x.1 ≤ l.length ∧ InvL ms x.1 x.2, fun x => l.length - x.1, [], ⟨(0, ⟨⟨0, ms⟩, [], List.replicate 256 0, [0, 0, 0, 0]⟩), ⟨Nat.zero_le _, ?_⟩, ?_⟩, ?_⟩
  · refine ⟨by simp [viewB, hid], Int.le_refl _, Int.le_refl _, rfl, List.length_replicate, rfl, fun n hn => ?_⟩
    refine ⟨fun r hr => ?_, fun hr => ⟨?_, fun e _ _ => zs n e⟩⟩
    · cases hr
    · match n, hn with
      | 0, _ => rfl
      | 1, _ => rfl
      | 2, _ => rfl
      | 3, _ => rfl
  · conv => whnf
    refine ⟨⟨.refl, .refl, .refl, .nl, .refl, .refl, .refl, trivial⟩, ⟨.refl, ?_, .refl, trivial⟩, by rfl⟩
    have e : (List.replicate 256 (0 : Int)).map i64 = (tinfo tt 44).zero := by kernel_rfl
    rw [e]
    exact .refl
  · intro ⟨i, v, d, s, la⟩ ⟨hi, hI⟩
    simp only at hi hI
    obtain ⟨hvv, hn0, hni, hvd, hs, hla, hP⟩ := hI
    simp only at hvv hn0 hni hvd hs hla hP
    repeat' ((conv => whnf); first | refine And.intro (fun h => h) ?_ | refine dcond_t (by assumption) ?_ | refine dcond_f (by assumption) ?_ | (refine dcond_intro ?_ ?_ <;> intro h) | exact .refl | refine And.intro (by kernel_rfl) ?_ | refine And.intro ⟨fun h => h, fun h => h⟩ ?_ | refine Exists.intro false ?_ | (refine And.intro ?_ ?_; focus (simp; done)) | fail)
    all_goals (conv => whnf)
    have hlt : i < l.length := by simpa using h
    clear h
    obtain ⟨x, hx⟩ : ∃ x, x = l[i] := ⟨_, rfl⟩
    obtain ⟨o1, o2, o3, o4⟩ := hok x (by rw [hx]; exact List.getElem_mem hlt)
    have hgx : (l.map stpE)[i]? = some (stpE x) := by
      rw [hx]
      exact get_map hlt
    have act : ∀ n : Nat, n ≤ 255 → Ret Try.prog 12 [u8 n] (.agg (refE (actR n))) := c_law14_actor
    repeat' ((conv => whnf); first | refine And.intro (fun h => h) ?_ | refine dcond_t (by assumption) ?_ | refine dcond_f (by assumption) ?_ | (refine dcond_intro ?_ ?_ <;> intro h) | exact .refl | refine And.intro (by kernel_rfl) ?_ | refine And.intro ⟨fun h => h, fun h => h⟩ ?_ | refine ⟨i, stpE x, And.intro ⟨rfl, hgx⟩ ?_⟩ | refine .inl ⟨_, _, DleAll_refl _, act x.ac o2, ?_⟩ | refine ⟨_, _, DleAll_refl _, fun _ => act x.ac o2, ?_⟩ | refine ⟨_, _, DleAll_refl _, act x.ac o2, ?_⟩ | refine Exists.intro false ?_ | (refine And.intro ?_ ?_; focus (simp; done)) | fail)
    all_goals (conv => whnf)
    · clear h
      refine ⟨Nat, fun k => ⟨[(0, .lst 1 (ms.map intE) false), (1, .lst 4 (l.map stpE) false), (5, .lp 0 0), (6, .lst 5 (d.map recE) false), (7, .lp 1 0), (8, .lp 2 0), (9, i64 i), (11, .own 4), (12, i64 k)], [.cells 25 (viewE v), .cells 44 (s.map i64), .cells 45 (la.map i64), .cells 27 (refE (actR x.ac)), .row 3 1 ((sel x.mb ms k).map intE)]⟩, fun k => k ≤ ms.length, fun k => ms.length - k, [.slot 11 3 1], ⟨0, Nat.zero_le _, ?_⟩, ?_⟩
      · conv => whnf
        exact ⟨⟨.refl, .refl, .refl, .refl, .refl, .refl, .refl, .refl, .refl, trivial⟩, ⟨.refl, .refl, .refl, .refl, .refl, trivial⟩, bndok rfl rfl rfl⟩
      · intro k hk
        have hsl := sel_len x.mb ms k hk
        repeat' ((conv => whnf); first | refine And.intro (fun h => h) ?_ | refine dcond_t (by assumption) ?_ | refine dcond_f (by assumption) ?_ | (refine dcond_intro ?_ ?_ <;> intro h) | exact .refl | refine And.intro (by kernel_rfl) ?_ | refine And.intro ⟨fun h => h, fun h => h⟩ ?_ | refine Exists.intro false ?_ | (refine And.intro ?_ ?_; focus (simp; done)) | fail)
        · have hltk : k < ms.length := by simpa using h
          clear h
          have hcond : (decide (0 < (IntKind.i64.wrap (IntKind.i64.wrap (x.mb : Int) + (k : Int))).tmod 3) || decide ((k : Int) = 0)) = selP x.mb k := by
            rw [wrap_i64 (n := (x.mb : Int)) (by omega) (by omega), wrap_i64 (by omega) (by omega)]
            unfold selP
            congr 1
            · have : ((x.mb : Int) + (k : Int)).tmod 3 = (((x.mb + k) % 3 : Nat) : Int) := rfl
              rw [this]
              rw [Bool.eq_iff_iff, decide_eq_true_eq, decide_eq_true_eq]
              omega
            · rw [Bool.eq_iff_iff, decide_eq_true_eq, decide_eq_true_eq]
              omega
          repeat' ((conv => whnf); first | refine And.intro (fun h => h) ?_ | refine dcond_t (by assumption) ?_ | refine dcond_f (by assumption) ?_ | (refine dcond_intro ?_ ?_ <;> intro h) | exact .refl | refine And.intro (by kernel_rfl) ?_ | refine And.intro ⟨fun h => h, fun h => h⟩ ?_ | refine ⟨i, stpE x, And.intro ⟨rfl, hgx⟩ ?_⟩ | refine ⟨_, _, And.intro ⟨rfl, get_map hltk⟩ ?_⟩ | refine And.intro (fitsI (by simp <;> omega)) ?_ | refine Exists.intro false ?_ | (refine And.intro ?_ ?_; focus (simp; done)) | fail)
          all_goals (conv => whnf)
          all_goals rw [hcond] at h
          all_goals refine ⟨k + 1, hltk, by simp only []; omega, ?_⟩
          all_goals (conv => whnf)
          all_goals refine ⟨⟨.refl, .refl, .refl, .refl, .refl, .refl, .refl, .refl, dle_int (wrap_succ (by omega)), trivial⟩, ⟨by first | exact .refl | exact ole_cells rfl, by first | exact .refl | exact ole_cells (sub_ints _ _ _), by first | exact .refl | exact ole_cells (sub_ints _ _ _), by first | exact .refl | exact ole_cells rfl, ole_row ?_, trivial⟩, bndok rfl rfl rfl⟩
          · have e : sel x.mb ms (k + 1) = sel x.mb ms k ++ [ms[k]] := by simp [sel, h, hltk]
            rw [e, List.map_append]
            rfl
          · have e : sel x.mb ms (k + 1) = sel x.mb ms k := by simp [sel, h]
            rw [e]
        · have hk2 : k = ms.length := by
            simp at h
            omega
          subst hk2
          clear h
          have hsi := sel_ids (b := x.mb) hid
          have hdl := valid_len hvd
          have hn1 : IntKind.i64.wrap (v.num + 1) = v.num + 1 := wrap_i64 (by omega) (by omega)
          generalize sel x.mb ms ms.length = ns at *
          have hvv2 : viewB ⟨IntKind.i64.wrap (v.num + 1), ns⟩ = true := by
            simp only [viewB, hsi, Bool.and_true, Bool.and_eq_true, decide_eq_true_eq]
            omega
          have eR := c_directory_Reconcile d (by simp only [maxLen]; omega) ⟨IntKind.i64.wrap (v.num + 1), ns⟩ (by simp only [maxLen]; omega)
          have hvd2 := reco_valid hvd hvv2
          have hpre : ∀ n, n < 4 → PreN ⟨IntKind.i64.wrap (v.num + 1), ns⟩ (recoR d ⟨IntKind.i64.wrap (v.num + 1), ns⟩) (i + 1) s la n := fun n hn => pre_view (hP n hn) hvd hvv2
          have hdl2 := valid_len hvd2
          have hnum : 0 ≤ View.num ⟨IntKind.i64.wrap (v.num + 1), ns⟩ ∧ View.num ⟨IntKind.i64.wrap (v.num + 1), ns⟩ ≤ ((i + 1 : Nat) : Int) := by
            simp only []
            omega
          have hns : ns.length ≤ maxLen := by
            simp only [maxLen]
            omega
          generalize recoR d ⟨IntKind.i64.wrap (v.num + 1), ns⟩ = d2 at *
          repeat' ((conv => whnf); first | refine And.intro (fun h => h) ?_ | refine dcond_t (by assumption) ?_ | refine dcond_f (by assumption) ?_ | (refine dcond_intro ?_ ?_ <;> intro h) | exact .refl | refine And.intro (by kernel_rfl) ?_ | refine And.intro ⟨fun h => h, fun h => h⟩ ?_ | refine .inl ⟨_, _, DleAll_refl _, eR, ?_⟩ | refine ⟨_, _, DleAll_refl _, fun _ => eR, ?_⟩ | refine ⟨_, _, DleAll_refl _, eR, ?_⟩ | refine Exists.intro false ?_ | (refine And.intro ?_ ?_; focus (simp; done)) | fail)
          all_goals (conv => whnf)
          have eV : Ret Try.prog 14 [.lst 5 (d2.map recE) false] (.v (.bool tr)) := by
            rw [htr, ← hvd2]
            exact c_directory_Valid d2 (by simp only [maxLen]; omega)
          repeat' ((conv => whnf); first | refine And.intro (fun h => h) ?_ | refine dcond_t (by assumption) ?_ | refine dcond_f (by assumption) ?_ | (refine dcond_intro ?_ ?_ <;> intro h) | exact .refl | refine And.intro (by kernel_rfl) ?_ | refine And.intro ⟨fun h => h, fun h => h⟩ ?_ | refine .inl ⟨_, _, DleAll_refl _, eV, ?_⟩ | refine ⟨_, _, DleAll_refl _, fun _ => eV, ?_⟩ | refine ⟨_, _, DleAll_refl _, eV, ?_⟩ | refine Exists.intro false ?_ | (refine And.intro ?_ ?_; focus (simp; done)) | fail)
          all_goals (conv => whnf)
          · rw [htr] at h
            cases h
          · clear h
            refine ⟨Nat × List Int × List Int, fun y => ⟨[(0, .lst 1 (ms.map intE) false), (1, .lst 4 (l.map stpE) false), (5, .lp 0 0), (6, .lst 5 (d2.map recE) false), (7, .lp 1 0), (8, .lp 2 0), (9, i64 i), (16, u8 y.1)], [.cells 25 (viewE ⟨IntKind.i64.wrap (v.num + 1), ns⟩), .cells 44 (y.2.1.map i64), .cells 45 (y.2.2.map i64)]⟩, fun y => y.1 ≤ 4 ∧ y.2.1.length = 256 ∧ y.2.2.length = 4 ∧ MidN ⟨IntKind.i64.wrap (v.num + 1), ns⟩ d2 (i + 1) y.2.1 y.2.2 y.1, fun y => 4 - y.1, [.shut 11], ⟨(0, s, la), ⟨Nat.zero_le _, hs, hla, fun m hm => ⟨fun h => absurd h (Nat.not_lt_zero _), fun _ => hpre m hm⟩⟩, ?_⟩, ?_⟩
            · conv => whnf
              exact ⟨⟨.refl, .refl, .refl, .refl, .refl, .refl, .refl, .refl, trivial⟩, ⟨by first | exact .refl | exact ole_cells rfl, by first | exact .refl | exact ole_cells (sub_ints _ _ _), by first | exact .refl | exact ole_cells (sub_ints _ _ _), trivial⟩, bndok rfl rfl rfl⟩
            · intro ⟨k, s2, l2⟩ ⟨hk, hs2, hl2, hM⟩
              simp only at hk hs2 hl2 hM
              have eF := c_directory_Find d2 (by simp only [maxLen]; omega) (actR k)
              generalize hF : findR d2 (actR k) = F at eF
              obtain ⟨r, f⟩ := F
              simp only at eF
              have hgl : ∀ o : Nat, k < 4 → o = k → (l2.map i64)[o]? = some (i64 (l2.getD k 0)) := fun o h4 ho => by
                subst ho
                simp [show o < l2.length by omega]
              have hgs : ∀ o : Nat, k < 4 → r.ep.toNat < 64 → o = k * 64 + r.ep.toNat → (s2.map i64)[o]? = some (i64 (sAt s2 k r.ep.toNat)) := fun o h4 he ho => by
                subst ho
                unfold sAt
                simp [show k * 64 + r.ep.toNat < s2.length by omega]
              repeat' ((conv => whnf); first | refine And.intro (fun h => h) ?_ | refine dcond_t (by assumption) ?_ | refine dcond_f (by assumption) ?_ | (refine dcond_intro ?_ ?_ <;> intro h) | exact .refl | refine And.intro (by kernel_rfl) ?_ | refine And.intro ⟨fun h => h, fun h => h⟩ ?_ | refine .inl ⟨_, _, DleAll_refl _, act k (by omega), ?_⟩ | refine ⟨_, _, DleAll_refl _, fun _ => act k (by omega), ?_⟩ | refine ⟨_, _, DleAll_refl _, act k (by omega), ?_⟩ | refine .inl ⟨_, _, DleAll_refl _, eF, ?_⟩ | refine ⟨_, _, DleAll_refl _, fun _ => eF, ?_⟩ | refine ⟨_, _, DleAll_refl _, eF, ?_⟩ | refine Exists.intro false ?_ | (refine And.intro ?_ ?_; focus (simp; done)) | fail)
              all_goals (conv => whnf)
              · rename_i h4
                have h4 : k < 4 := by
                  simp at h4
                  omega
                have hf : f = false := by simpa using h
                refine ⟨(k + 1, s2, l2), ⟨by simp only []; omega, hs2, hl2, mid_no hM h4 (by rw [hF]; exact hf)⟩, by simp only []; omega, ?_⟩
                conv => whnf
                exact ⟨⟨.refl, .refl, .refl, .refl, .refl, .refl, .refl, dle_u8 (by omega), trivial⟩, ⟨.refl, .refl, .refl, trivial⟩, bndok rfl rfl rfl⟩
              · rename_i h4
                have h4 : k < 4 := by
                  simp at h4
                  omega
                have hf : f = true := by simpa using h
                subst hf
                clear h
                obtain ⟨p1, p2, p3, p4, p5, p6⟩ := ((hM k h4).2 (Nat.le_refl _)).1 r hF
                repeat' ((conv => whnf); first | refine And.intro (fun h => h) ?_ | refine dcond_t (by assumption) ?_ | refine dcond_f (by assumption) ?_ | (refine dcond_intro ?_ ?_ <;> intro h) | exact .refl | refine And.intro (by kernel_rfl) ?_ | refine And.intro ⟨fun h => h, fun h => h⟩ ?_ | refine ⟨k, And.intro ⟨fun h => h, fun hg => ⟨rfl, h4⟩⟩ ?_⟩ | refine Exists.intro (i64 (l2.getD k 0)) ?_ <;> (conv => whnf) <;> refine And.intro ⟨fun h => h, fun hg => hgl _ h4 (show 0 + k * 1 = k by omega)⟩ ?_ | refine ⟨k, And.intro ⟨rfl, h4⟩ ?_⟩ | refine Exists.intro (i64 (l2.getD k 0)) ?_ <;> (conv => whnf) <;> refine And.intro (hgl _ h4 (show 0 + k * 1 = k by omega)) ?_ | refine Exists.intro false ?_ | (refine And.intro ?_ ?_; focus (simp; done)) | fail)
                · have hw : IntKind.i64.wrap (l2.getD k 0 + 1) = l2.getD k 0 + 1 := wrap_i64 (by omega) (by omega)
                  rw [hw] at h
                  simp at h
                  simp at p1 p2
                  omega
                · clear h
                  repeat' ((conv => whnf); first | refine And.intro (fun h => h) ?_ | refine dcond_t (by assumption) ?_ | refine dcond_f (by assumption) ?_ | (refine dcond_intro ?_ ?_ <;> intro h) | exact .refl | refine And.intro (by kernel_rfl) ?_ | refine And.intro ⟨fun h => h, fun h => h⟩ ?_ | refine And.intro (show 0 + k * 1 + 1 ≤ (l2.map i64).length by simp <;> omega) ?_ | refine Exists.intro false ?_ | (refine And.intro ?_ ?_; focus (simp; done)) | fail)
                  all_goals (conv => whnf)
                  · have hm0 : r.mem = 0 := by simpa using h
                    refine ⟨(k + 1, s2, l2.set k r.ep), ⟨by simp only []; omega, hs2, by simpa using hl2, mid_vac (by omega) hl2 hM h4 hF hm0⟩, by simp only []; omega, ?_⟩
                    conv => whnf
                    exact ⟨⟨.refl, .refl, .refl, .refl, .refl, .refl, .refl, dle_u8 (by omega), trivial⟩, ⟨by first | exact .refl | exact ole_cells rfl, by first | exact .refl | exact ole_cells (sub_ints _ _ _), ole_cells (show dsplice (l2.map i64) (0 + k * 1) [i64 r.ep] = (l2.set k r.ep).map i64 from spl (by omega)), trivial⟩, bndok rfl rfl rfl⟩
                  · have hm0 : r.mem ≠ 0 := by simpa using h
                    clear h
                    have he1 : r.ep = (r.ep.toNat : Int) := by omega
                    have he2 : r.ep.toNat < 64 := by omega
                    have hct := c_ref3_Contains (View.mem ⟨IntKind.i64.wrap (v.num + 1), ns⟩) hns r.mem
                    repeat' ((conv => whnf); first | refine And.intro (fun h => h) ?_ | refine dcond_t (by assumption) ?_ | refine dcond_f (by assumption) ?_ | (refine dcond_intro ?_ ?_ <;> intro h) | exact .refl | refine And.intro (by kernel_rfl) ?_ | refine And.intro ⟨fun h => h, fun h => h⟩ ?_ | refine ⟨k, And.intro ⟨fun h => h, fun hg => ⟨rfl, h4⟩⟩ ?_⟩ | refine ⟨r.ep.toNat, And.intro ⟨⟨fun h => h, fun h => h⟩, fun hg => ⟨he1, he2⟩⟩ ?_⟩ | refine Exists.intro (i64 (sAt s2 k r.ep.toNat)) ?_ <;> (conv => whnf) <;> refine And.intro ⟨fun h => h, fun hg => hgs _ h4 he2 (show 0 + k * 64 + r.ep.toNat * 1 = k * 64 + r.ep.toNat by omega)⟩ ?_ | refine ⟨k, And.intro ⟨rfl, h4⟩ ?_⟩ | refine ⟨r.ep.toNat, And.intro ⟨he1, he2⟩ ?_⟩ | refine Exists.intro (i64 (sAt s2 k r.ep.toNat)) ?_ <;> (conv => whnf) <;> refine And.intro (hgs _ h4 he2 (show 0 + k * 64 + r.ep.toNat * 1 = k * 64 + r.ep.toNat by omega)) ?_ | refine .inl ⟨_, _, DleAll_refl _, hct, ?_⟩ | refine ⟨_, _, DleAll_refl _, fun _ => hct, ?_⟩ | refine ⟨_, _, DleAll_refl _, hct, ?_⟩ | refine Exists.intro false ?_ | (refine And.intro ?_ ?_; focus (simp; done)) | fail)
                    all_goals (conv => whnf)
                    · have p5 := p5 hm0
                      simp [p5.2] at h
                      rcases p5.1 with p5 | p5
                      · exact absurd p5 h.1
                      · exact absurd p5 h.2
                    · clear h
                      repeat' ((conv => whnf); first | refine And.intro (fun h => h) ?_ | refine dcond_t (by assumption) ?_ | refine dcond_f (by assumption) ?_ | (refine dcond_intro ?_ ?_ <;> intro h) | exact .refl | refine And.intro (by kernel_rfl) ?_ | refine And.intro ⟨fun h => h, fun h => h⟩ ?_ | refine ⟨k, And.intro ⟨rfl, h4⟩ ?_⟩ | refine ⟨r.ep.toNat, And.intro ⟨he1, he2⟩ ?_⟩ | refine And.intro (show 0 + k * 64 + r.ep.toNat * 1 + 1 ≤ (s2.map i64).length by simp <;> omega) ?_ | refine Exists.intro false ?_ | (refine And.intro ?_ ?_; focus (simp; done)) | fail)
                      all_goals (conv => whnf)
                      refine ⟨Nat, fun j => ⟨[(0, .lst 1 (ms.map intE) false), (1, .lst 4 (l.map stpE) false), (5, .lp 0 0), (6, .lst 5 (d2.map recE) false), (7, .lp 1 0), (8, .lp 2 0), (9, i64 i), (16, u8 k), (17, .lp 3 0), (19, i64 j)], [.cells 25 (viewE ⟨IntKind.i64.wrap (v.num + 1), ns⟩), .cells 44 ((s2.set (k * 64 + r.ep.toNat) r.mem).map i64), .cells 45 ((l2.set k r.ep).map i64), .cells 36 (recE r)]⟩, fun j => j ≤ ms.length, fun j => ms.length - j, [], ⟨0, Nat.zero_le _, ?_⟩, ?_⟩
                      · conv => whnf
                        exact ⟨⟨.refl, .refl, .refl, .refl, .refl, .refl, .refl, .refl, .refl, .refl, trivial⟩, ⟨.refl, ole_cells (show dsplice (s2.map i64) (0 + k * 64 + r.ep.toNat * 1) [i64 r.mem] = (s2.set (k * 64 + r.ep.toNat) r.mem).map i64 from spl (by omega)), ole_cells (show dsplice (l2.map i64) (0 + k * 1) [i64 r.ep] = (l2.set k r.ep).map i64 from spl (by omega)), .refl, trivial⟩, bndok rfl rfl rfl⟩
                      · intro j hj
                        repeat' ((conv => whnf); first | refine And.intro (fun h => h) ?_ | refine dcond_t (by assumption) ?_ | refine dcond_f (by assumption) ?_ | (refine dcond_intro ?_ ?_ <;> intro h) | exact .refl | refine And.intro (by kernel_rfl) ?_ | refine And.intro ⟨fun h => h, fun h => h⟩ ?_ | refine Exists.intro false ?_ | (refine And.intro ?_ ?_; focus (simp; done)) | fail)
                        · have hltj : j < ms.length := by simpa using h
                          clear h
                          have f1 := c_directory_Fence d2 (by simp only [maxLen]; omega) (actR k) ms[j] r.ep
                          have f2 := c_directory_Fence d2 (by simp only [maxLen]; omega) (actR k) ms[j] (IntKind.i64.wrap (r.ep + 1))
                          have g1 := fence_zero hvd2 hF hm0 ms[j] r.ep
                          have g2 := fence_zero hvd2 hF hm0 ms[j] (IntKind.i64.wrap (r.ep + 1))
                          have hwe : IntKind.i64.wrap (r.ep + 1) = r.ep + 1 := wrap_i64 (by omega) (by omega)
                          generalize fenceE d2 (actR k) ms[j] r.ep = q1 at *
                          generalize fenceE d2 (actR k) ms[j] (IntKind.i64.wrap (r.ep + 1)) = q2 at *
                          repeat' ((conv => whnf); first | refine And.intro (fun h => h) ?_ | refine dcond_t (by assumption) ?_ | refine dcond_f (by assumption) ?_ | (refine dcond_intro ?_ ?_ <;> intro h) | exact .refl | refine And.intro (by kernel_rfl) ?_ | refine And.intro ⟨fun h => h, fun h => h⟩ ?_ | refine ⟨_, _, And.intro ⟨rfl, get_map hltj⟩ ?_⟩ | refine .inl ⟨_, _, DleAll_refl _, act k (by omega), ?_⟩ | refine ⟨_, _, DleAll_refl _, fun _ => act k (by omega), ?_⟩ | refine ⟨_, _, DleAll_refl _, act k (by omega), ?_⟩ | refine .inl ⟨_, _, DleAll_refl _, f1, ?_⟩ | refine ⟨_, _, DleAll_refl _, fun _ => f1, ?_⟩ | refine ⟨_, _, DleAll_refl _, f1, ?_⟩ | refine .inl ⟨_, _, DleAll_refl _, f2, ?_⟩ | refine ⟨_, _, DleAll_refl _, fun _ => f2, ?_⟩ | refine ⟨_, _, DleAll_refl _, f2, ?_⟩ | refine ⟨j, intE (ms[j]'hltj), And.intro ⟨⟨fun h => h, fun h => h⟩, fun hg => ⟨rfl, get_map hltj⟩⟩ ?_⟩ | refine Exists.intro false ?_ | (refine And.intro ?_ ?_; focus (simp; done)) | fail)
                          all_goals (conv => whnf)
                          · exfalso
                            simp only [true_and, and_true] at g1
                            have g3 : ¬ q2 = 0 := fun e => by
                              have := (g2.1 e).2
                              omega
                            by_cases hq : q1 = 0
                            · have := g1.1 hq
                              simp [hq, g3, this] at h
                            · have : ¬ ms[j] = r.mem := fun e => hq (g1.2 e.symm)
                              simp [hq, g3, this] at h
                          · refine ⟨j + 1, hltj, by simp only []; omega, ?_⟩
                            conv => whnf
                            exact ⟨⟨.refl, .refl, .refl, .refl, .refl, .refl, .refl, .refl, .refl, dle_int (wrap_succ (by omega)), trivial⟩, ⟨.refl, .refl, .refl, .refl, trivial⟩, bndok rfl rfl rfl⟩
                        · have hj2 : j = ms.length := by
                            simp at h
                            omega
                          subst hj2
                          clear h
                          repeat' ((conv => whnf); first | refine And.intro (fun h => h) ?_ | refine dcond_t (by assumption) ?_ | refine dcond_f (by assumption) ?_ | (refine dcond_intro ?_ ?_ <;> intro h) | exact .refl | refine And.intro (by kernel_rfl) ?_ | refine And.intro ⟨fun h => h, fun h => h⟩ ?_ | refine Exists.intro false ?_ | (refine And.intro ?_ ?_; focus (simp; done)) | fail)
                          all_goals (conv => whnf)
                          refine ⟨(k + 1, s2.set (k * 64 + r.ep.toNat) r.mem, l2.set k r.ep), ⟨by simp only []; omega, by simpa using hs2, by simpa using hl2, mid_held (by omega) hl2 hs2 hM h4 hF hm0⟩, by simp only []; omega, ?_⟩
                          conv => whnf
                          exact ⟨⟨.refl, .refl, .refl, .refl, .refl, .refl, .refl, dle_u8 (by omega), trivial⟩, ⟨.refl, .refl, .refl, trivial⟩, bndok rfl rfl rfl⟩
              · have hk4 : k = 4 := by
                  simp at h
                  omega
                subst hk4
                refine ⟨(i + 1, ⟨⟨IntKind.i64.wrap (v.num + 1), ns⟩, d2, s2, l2⟩), ⟨hlt, ⟨hvv2, hnum.1, hnum.2, hvd2, hs2, hl2, fun n hn => (hM n hn).1 hn⟩⟩, by simp only []; omega, ?_⟩
                conv => whnf
                exact ⟨⟨.refl, .refl, .refl, .refl, .refl, .refl, dle_int (wrap_succ (by omega)), trivial⟩, ⟨.refl, .refl, .refl, trivial⟩, bndok rfl rfl rfl⟩
    · clear h
      have hdl := valid_len hvd
      have hd3 : d.length ≤ maxLen := by
        simp only [maxLen]
        omega
      have hvm : v.mem.length ≤ 16 := (view_len hvv).2
      have hns : v.mem.length ≤ maxLen := by
        simp only [maxLen]
        omega
      have hnum : 0 ≤ v.num ∧ v.num ≤ ((i + 1 : Nat) : Int) := by omega
      obtain ⟨F, hFF⟩ : ∃ F : Int → Int → Int → List Rec × Int, F = fun a b c => applyR d v ⟨a, actR x.ac, b, c⟩ := ⟨_, rfl⟩
      have eA : ∀ a b c, Ret Try.prog 9 [.lst 5 (d.map recE) false, .agg (viewE v), .agg (cmdE ⟨a, actR x.ac, b, c⟩)] (.tup [.lst 5 ((F a b c).1.map recE) false, .v (.int .i64 (F a b c).2)]) := fun a b c => by
        rw [hFF]
        exact c_directory_Apply d hd3 v hns _
      have hA : ∀ a b c, (F a b c).2 = 0 → validB (F a b c).1 = true ∧ ∀ n, n < 4 → PreN v (F a b c).1 (i + 1) s la n := fun a b c h => by
        rw [hFF] at h ⊢
        exact ⟨apply_valid h, fun n hn => pre_cmd (by omega) (hP n hn) h⟩
      clear hFF
      have hm4 : x.ac % 4 < 4 := Nat.mod_lt _ (by omega)
      have hgl : ∀ o : Nat, o = x.ac % 4 → (la.map i64)[o]? = some (i64 (la.getD (x.ac % 4) 0)) := fun o ho => by
        subst ho
        simp [show x.ac % 4 < la.length by omega]
      have hmb : x.mb % ms.length < ms.length := Nat.mod_lt _ (by omega)
      have hix : (IntKind.i64.wrap (x.mb : Int)).tmod ((ms.map intE).length : Int) = ((x.mb % ms.length : Nat) : Int) := by
        rw [wrap_i64 (by omega) (by omega), List.length_map]
        rfl
      have hne : ((ms.map intE).length : Int) ≠ 0 := by
        simp only [List.length_map]
        omega
      repeat' ((conv => whnf); first | refine And.intro (fun h => h) ?_ | refine dcond_t (by assumption) ?_ | refine dcond_f (by assumption) ?_ | (refine dcond_intro ?_ ?_ <;> intro h) | exact .refl | refine And.intro (by kernel_rfl) ?_ | refine And.intro ⟨fun h => h, fun h => h⟩ ?_ | refine ⟨i, stpE x, And.intro ⟨rfl, hgx⟩ ?_⟩ | refine ⟨x.ac % 4, And.intro ⟨rfl, hm4⟩ ?_⟩ | refine Exists.intro (i64 (la.getD (x.ac % 4) 0)) ?_ <;> (conv => whnf) <;> refine And.intro (hgl _ (show 0 + x.ac % 4 * 1 = x.ac % 4 by omega)) ?_ | refine And.intro hne ?_ | refine ⟨x.mb % ms.length, intE (ms[x.mb % ms.length]'hmb), And.intro ⟨hix, get_map hmb⟩ ?_⟩ | refine .inl ⟨[.lst 5 (d.map recE) false, .agg (viewE v), .agg (cmdE ⟨_, actR x.ac, _, _⟩)], _, ⟨.refl, .refl, .refl, trivial⟩, eA _ _ _, ?_⟩ | refine Exists.intro false ?_ | (refine And.intro ?_ ?_; focus (simp; done)) | fail)
      all_goals (conv => whnf)
      all_goals first | (have hq := hA _ _ _ (of_decide_eq_true h) <;> clear eA hA <;> generalize F _ _ _ = Y at hq ⊢ <;> clear h <;> obtain ⟨X, E⟩ := Y <;> have hvd2 : validB X = true := hq.1 <;> have hpre : ∀ n, n < 4 → PreN v X (i + 1) s la n := hq.2 <;> have hdl2 : X.length ≤ 200 := valid_len hvd2) | (clear eA hA h <;> have hpre : ∀ n, n < 4 → PreN v d (i + 1) s la n := (fun n hn => pre_keep (hP n hn)) <;> have hvd2 := hvd <;> have hdl2 := hdl <;> rename List Rec => X)
      all_goals (conv => whnf)
      all_goals
        have hvv2 := hvv
        have eV : Ret Try.prog 14 [.lst 5 (X.map recE) false] (.v (.bool tr)) := by
          rw [htr, ← hvd2]
          exact c_directory_Valid X (by simp only [maxLen]; omega)
        repeat' ((conv => whnf); first | refine And.intro (fun h => h) ?_ | refine dcond_t (by assumption) ?_ | refine dcond_f (by assumption) ?_ | (refine dcond_intro ?_ ?_ <;> intro h) | exact .refl | refine And.intro (by kernel_rfl) ?_ | refine And.intro ⟨fun h => h, fun h => h⟩ ?_ | refine .inl ⟨_, _, DleAll_refl _, eV, ?_⟩ | refine ⟨_, _, DleAll_refl _, fun _ => eV, ?_⟩ | refine ⟨_, _, DleAll_refl _, eV, ?_⟩ | refine Exists.intro false ?_ | (refine And.intro ?_ ?_; focus (simp; done)) | fail)
        all_goals (conv => whnf)
        · rw [htr] at h
          cases h
        · clear h
          refine ⟨Nat × List Int × List Int, fun y => ⟨[(0, .lst 1 (ms.map intE) false), (1, .lst 4 (l.map stpE) false), (5, .lp 0 0), (6, .lst 5 (X.map recE) false), (7, .lp 1 0), (8, .lp 2 0), (9, i64 i), (16, u8 y.1)], [.cells 25 (viewE v), .cells 44 (y.2.1.map i64), .cells 45 (y.2.2.map i64)]⟩, fun y => y.1 ≤ 4 ∧ y.2.1.length = 256 ∧ y.2.2.length = 4 ∧ MidN v X (i + 1) y.2.1 y.2.2 y.1, fun y => 4 - y.1, [], ⟨(0, s, la), ⟨Nat.zero_le _, hs, hla, fun m hm => ⟨fun h => absurd h (Nat.not_lt_zero _), fun _ => hpre m hm⟩⟩, ?_⟩, ?_⟩
          · conv => whnf
            exact ⟨⟨.refl, .refl, .refl, .refl, .refl, .refl, .refl, .refl, trivial⟩, ⟨by first | exact .refl | exact ole_cells rfl, by first | exact .refl | exact ole_cells (sub_ints _ _ _), by first | exact .refl | exact ole_cells (sub_ints _ _ _), trivial⟩, bndok rfl rfl rfl⟩
          · intro ⟨k, s2, l2⟩ ⟨hk, hs2, hl2, hM⟩
            simp only at hk hs2 hl2 hM
            have eF := c_directory_Find X (by simp only [maxLen]; omega) (actR k)
            generalize hF : findR X (actR k) = F at eF
            obtain ⟨r, f⟩ := F
            simp only at eF
            have hgl : ∀ o : Nat, k < 4 → o = k → (l2.map i64)[o]? = some (i64 (l2.getD k 0)) := fun o h4 ho => by
              subst ho
              simp [show o < l2.length by omega]
            have hgs : ∀ o : Nat, k < 4 → r.ep.toNat < 64 → o = k * 64 + r.ep.toNat → (s2.map i64)[o]? = some (i64 (sAt s2 k r.ep.toNat)) := fun o h4 he ho => by
              subst ho
              unfold sAt
              simp [show k * 64 + r.ep.toNat < s2.length by omega]
            repeat' ((conv => whnf); first | refine And.intro (fun h => h) ?_ | refine dcond_t (by assumption) ?_ | refine dcond_f (by assumption) ?_ | (refine dcond_intro ?_ ?_ <;> intro h) | exact .refl | refine And.intro (by kernel_rfl) ?_ | refine And.intro ⟨fun h => h, fun h => h⟩ ?_ | refine .inl ⟨_, _, DleAll_refl _, act k (by omega), ?_⟩ | refine ⟨_, _, DleAll_refl _, fun _ => act k (by omega), ?_⟩ | refine ⟨_, _, DleAll_refl _, act k (by omega), ?_⟩ | refine .inl ⟨_, _, DleAll_refl _, eF, ?_⟩ | refine ⟨_, _, DleAll_refl _, fun _ => eF, ?_⟩ | refine ⟨_, _, DleAll_refl _, eF, ?_⟩ | refine Exists.intro false ?_ | (refine And.intro ?_ ?_; focus (simp; done)) | fail)
            all_goals (conv => whnf)
            · rename_i h4
              have h4 : k < 4 := by
                simp at h4
                omega
              have hf : f = false := by simpa using h
              refine ⟨(k + 1, s2, l2), ⟨by simp only []; omega, hs2, hl2, mid_no hM h4 (by rw [hF]; exact hf)⟩, by simp only []; omega, ?_⟩
              conv => whnf
              exact ⟨⟨.refl, .refl, .refl, .refl, .refl, .refl, .refl, dle_u8 (by omega), trivial⟩, ⟨.refl, .refl, .refl, trivial⟩, bndok rfl rfl rfl⟩
            · rename_i h4
              have h4 : k < 4 := by
                simp at h4
                omega
              have hf : f = true := by simpa using h
              subst hf
              clear h
              obtain ⟨p1, p2, p3, p4, p5, p6⟩ := ((hM k h4).2 (Nat.le_refl _)).1 r hF
              repeat' ((conv => whnf); first | refine And.intro (fun h => h) ?_ | refine dcond_t (by assumption) ?_ | refine dcond_f (by assumption) ?_ | (refine dcond_intro ?_ ?_ <;> intro h) | exact .refl | refine And.intro (by kernel_rfl) ?_ | refine And.intro ⟨fun h => h, fun h => h⟩ ?_ | refine ⟨k, And.intro ⟨fun h => h, fun hg => ⟨rfl, h4⟩⟩ ?_⟩ | refine Exists.intro (i64 (l2.getD k 0)) ?_ <;> (conv => whnf) <;> refine And.intro ⟨fun h => h, fun hg => hgl _ h4 (show 0 + k * 1 = k by omega)⟩ ?_ | refine ⟨k, And.intro ⟨rfl, h4⟩ ?_⟩ | refine Exists.intro (i64 (l2.getD k 0)) ?_ <;> (conv => whnf) <;> refine And.intro (hgl _ h4 (show 0 + k * 1 = k by omega)) ?_ | refine Exists.intro false ?_ | (refine And.intro ?_ ?_; focus (simp; done)) | fail)
              · have hw : IntKind.i64.wrap (l2.getD k 0 + 1) = l2.getD k 0 + 1 := wrap_i64 (by omega) (by omega)
                rw [hw] at h
                simp at h
                simp at p1 p2
                omega
              · clear h
                repeat' ((conv => whnf); first | refine And.intro (fun h => h) ?_ | refine dcond_t (by assumption) ?_ | refine dcond_f (by assumption) ?_ | (refine dcond_intro ?_ ?_ <;> intro h) | exact .refl | refine And.intro (by kernel_rfl) ?_ | refine And.intro ⟨fun h => h, fun h => h⟩ ?_ | refine And.intro (show 0 + k * 1 + 1 ≤ (l2.map i64).length by simp <;> omega) ?_ | refine Exists.intro false ?_ | (refine And.intro ?_ ?_; focus (simp; done)) | fail)
                all_goals (conv => whnf)
                · have hm0 : r.mem = 0 := by simpa using h
                  refine ⟨(k + 1, s2, l2.set k r.ep), ⟨by simp only []; omega, hs2, by simpa using hl2, mid_vac (by omega) hl2 hM h4 hF hm0⟩, by simp only []; omega, ?_⟩
                  conv => whnf
                  exact ⟨⟨.refl, .refl, .refl, .refl, .refl, .refl, .refl, dle_u8 (by omega), trivial⟩, ⟨by first | exact .refl | exact ole_cells rfl, by first | exact .refl | exact ole_cells (sub_ints _ _ _), ole_cells (show dsplice (l2.map i64) (0 + k * 1) [i64 r.ep] = (l2.set k r.ep).map i64 from spl (by omega)), trivial⟩, bndok rfl rfl rfl⟩
                · have hm0 : r.mem ≠ 0 := by simpa using h
                  clear h
                  have he1 : r.ep = (r.ep.toNat : Int) := by omega
                  have he2 : r.ep.toNat < 64 := by omega
                  have hct := c_ref3_Contains (View.mem v) hns r.mem
                  repeat' ((conv => whnf); first | refine And.intro (fun h => h) ?_ | refine dcond_t (by assumption) ?_ | refine dcond_f (by assumption) ?_ | (refine dcond_intro ?_ ?_ <;> intro h) | exact .refl | refine And.intro (by kernel_rfl) ?_ | refine And.intro ⟨fun h => h, fun h => h⟩ ?_ | refine ⟨k, And.intro ⟨fun h => h, fun hg => ⟨rfl, h4⟩⟩ ?_⟩ | refine ⟨r.ep.toNat, And.intro ⟨⟨fun h => h, fun h => h⟩, fun hg => ⟨he1, he2⟩⟩ ?_⟩ | refine Exists.intro (i64 (sAt s2 k r.ep.toNat)) ?_ <;> (conv => whnf) <;> refine And.intro ⟨fun h => h, fun hg => hgs _ h4 he2 (show 0 + k * 64 + r.ep.toNat * 1 = k * 64 + r.ep.toNat by omega)⟩ ?_ | refine ⟨k, And.intro ⟨rfl, h4⟩ ?_⟩ | refine ⟨r.ep.toNat, And.intro ⟨he1, he2⟩ ?_⟩ | refine Exists.intro (i64 (sAt s2 k r.ep.toNat)) ?_ <;> (conv => whnf) <;> refine And.intro (hgs _ h4 he2 (show 0 + k * 64 + r.ep.toNat * 1 = k * 64 + r.ep.toNat by omega)) ?_ | refine .inl ⟨_, _, DleAll_refl _, hct, ?_⟩ | refine ⟨_, _, DleAll_refl _, fun _ => hct, ?_⟩ | refine ⟨_, _, DleAll_refl _, hct, ?_⟩ | refine Exists.intro false ?_ | (refine And.intro ?_ ?_; focus (simp; done)) | fail)
                  all_goals (conv => whnf)
                  · have p5 := p5 hm0
                    simp [p5.2] at h
                    rcases p5.1 with p5 | p5
                    · exact absurd p5 h.1
                    · exact absurd p5 h.2
                  · clear h
                    repeat' ((conv => whnf); first | refine And.intro (fun h => h) ?_ | refine dcond_t (by assumption) ?_ | refine dcond_f (by assumption) ?_ | (refine dcond_intro ?_ ?_ <;> intro h) | exact .refl | refine And.intro (by kernel_rfl) ?_ | refine And.intro ⟨fun h => h, fun h => h⟩ ?_ | refine ⟨k, And.intro ⟨rfl, h4⟩ ?_⟩ | refine ⟨r.ep.toNat, And.intro ⟨he1, he2⟩ ?_⟩ | refine And.intro (show 0 + k * 64 + r.ep.toNat * 1 + 1 ≤ (s2.map i64).length by simp <;> omega) ?_ | refine Exists.intro false ?_ | (refine And.intro ?_ ?_; focus (simp; done)) | fail)
                    all_goals (conv => whnf)
                    refine ⟨Nat, fun j => ⟨[(0, .lst 1 (ms.map intE) false), (1, .lst 4 (l.map stpE) false), (5, .lp 0 0), (6, .lst 5 (X.map recE) false), (7, .lp 1 0), (8, .lp 2 0), (9, i64 i), (16, u8 k), (17, .lp 3 0), (19, i64 j)], [.cells 25 (viewE v), .cells 44 ((s2.set (k * 64 + r.ep.toNat) r.mem).map i64), .cells 45 ((l2.set k r.ep).map i64), .cells 36 (recE r)]⟩, fun j => j ≤ ms.length, fun j => ms.length - j, [], ⟨0, Nat.zero_le _, ?_⟩, ?_⟩
                    · conv => whnf
                      exact ⟨⟨.refl, .refl, .refl, .refl, .refl, .refl, .refl, .refl, .refl, .refl, trivial⟩, ⟨.refl, ole_cells (show dsplice (s2.map i64) (0 + k * 64 + r.ep.toNat * 1) [i64 r.mem] = (s2.set (k * 64 + r.ep.toNat) r.mem).map i64 from spl (by omega)), ole_cells (show dsplice (l2.map i64) (0 + k * 1) [i64 r.ep] = (l2.set k r.ep).map i64 from spl (by omega)), .refl, trivial⟩, bndok rfl rfl rfl⟩
                    · intro j hj
                      repeat' ((conv => whnf); first | refine And.intro (fun h => h) ?_ | refine dcond_t (by assumption) ?_ | refine dcond_f (by assumption) ?_ | (refine dcond_intro ?_ ?_ <;> intro h) | exact .refl | refine And.intro (by kernel_rfl) ?_ | refine And.intro ⟨fun h => h, fun h => h⟩ ?_ | refine Exists.intro false ?_ | (refine And.intro ?_ ?_; focus (simp; done)) | fail)
                      · have hltj : j < ms.length := by simpa using h
                        clear h
                        have f1 := c_directory_Fence X (by simp only [maxLen]; omega) (actR k) ms[j] r.ep
                        have f2 := c_directory_Fence X (by simp only [maxLen]; omega) (actR k) ms[j] (IntKind.i64.wrap (r.ep + 1))
                        have g1 := fence_zero hvd2 hF hm0 ms[j] r.ep
                        have g2 := fence_zero hvd2 hF hm0 ms[j] (IntKind.i64.wrap (r.ep + 1))
                        have hwe : IntKind.i64.wrap (r.ep + 1) = r.ep + 1 := wrap_i64 (by omega) (by omega)
                        generalize fenceE X (actR k) ms[j] r.ep = q1 at *
                        generalize fenceE X (actR k) ms[j] (IntKind.i64.wrap (r.ep + 1)) = q2 at *
                        repeat' ((conv => whnf); first | refine And.intro (fun h => h) ?_ | refine dcond_t (by assumption) ?_ | refine dcond_f (by assumption) ?_ | (refine dcond_intro ?_ ?_ <;> intro h) | exact .refl | refine And.intro (by kernel_rfl) ?_ | refine And.intro ⟨fun h => h, fun h => h⟩ ?_ | refine ⟨_, _, And.intro ⟨rfl, get_map hltj⟩ ?_⟩ | refine .inl ⟨_, _, DleAll_refl _, act k (by omega), ?_⟩ | refine ⟨_, _, DleAll_refl _, fun _ => act k (by omega), ?_⟩ | refine ⟨_, _, DleAll_refl _, act k (by omega), ?_⟩ | refine .inl ⟨_, _, DleAll_refl _, f1, ?_⟩ | refine ⟨_, _, DleAll_refl _, fun _ => f1, ?_⟩ | refine ⟨_, _, DleAll_refl _, f1, ?_⟩ | refine .inl ⟨_, _, DleAll_refl _, f2, ?_⟩ | refine ⟨_, _, DleAll_refl _, fun _ => f2, ?_⟩ | refine ⟨_, _, DleAll_refl _, f2, ?_⟩ | refine ⟨j, intE (ms[j]'hltj), And.intro ⟨⟨fun h => h, fun h => h⟩, fun hg => ⟨rfl, get_map hltj⟩⟩ ?_⟩ | refine Exists.intro false ?_ | (refine And.intro ?_ ?_; focus (simp; done)) | fail)
                        all_goals (conv => whnf)
                        · exfalso
                          simp only [true_and, and_true] at g1
                          have g3 : ¬ q2 = 0 := fun e => by
                            have := (g2.1 e).2
                            omega
                          by_cases hq : q1 = 0
                          · have := g1.1 hq
                            simp [hq, g3, this] at h
                          · have : ¬ ms[j] = r.mem := fun e => hq (g1.2 e.symm)
                            simp [hq, g3, this] at h
                        · refine ⟨j + 1, hltj, by simp only []; omega, ?_⟩
                          conv => whnf
                          exact ⟨⟨.refl, .refl, .refl, .refl, .refl, .refl, .refl, .refl, .refl, dle_int (wrap_succ (by omega)), trivial⟩, ⟨.refl, .refl, .refl, .refl, trivial⟩, bndok rfl rfl rfl⟩
                      · have hj2 : j = ms.length := by
                          simp at h
                          omega
                        subst hj2
                        clear h
                        repeat' ((conv => whnf); first | refine And.intro (fun h => h) ?_ | refine dcond_t (by assumption) ?_ | refine dcond_f (by assumption) ?_ | (refine dcond_intro ?_ ?_ <;> intro h) | exact .refl | refine And.intro (by kernel_rfl) ?_ | refine And.intro ⟨fun h => h, fun h => h⟩ ?_ | refine Exists.intro false ?_ | (refine And.intro ?_ ?_; focus (simp; done)) | fail)
                        all_goals (conv => whnf)
                        refine ⟨(k + 1, s2.set (k * 64 + r.ep.toNat) r.mem, l2.set k r.ep), ⟨by simp only []; omega, by simpa using hs2, by simpa using hl2, mid_held (by omega) hl2 hs2 hM h4 hF hm0⟩, by simp only []; omega, ?_⟩
                        conv => whnf
                        exact ⟨⟨.refl, .refl, .refl, .refl, .refl, .refl, .refl, dle_u8 (by omega), trivial⟩, ⟨.refl, .refl, .refl, trivial⟩, bndok rfl rfl rfl⟩
            · have hk4 : k = 4 := by
                simp at h
                omega
              subst hk4
              refine ⟨(i + 1, ⟨v, X, s2, l2⟩), ⟨hlt, ⟨hvv2, hnum.1, hnum.2, hvd2, hs2, hl2, fun n hn => (hM n hn).1 hn⟩⟩, by simp only []; omega, ?_⟩
              conv => whnf
              exact ⟨⟨.refl, .refl, .refl, .refl, .refl, .refl, dle_int (wrap_succ (by omega)), trivial⟩, ⟨.refl, .refl, .refl, trivial⟩, bndok rfl rfl rfl⟩
end Go.Proofs.Ythdpjinchanceaa

set_option linter.unusedSimpArgs false
set_option linter.unusedVariables false
set_option maxRecDepth 100000
namespace Go.Proofs.Ythdpjinchanceaa
open Go.Lift
theorem dat_stp {n : Nat} {r : List DV} (h : Dat tt (n + 2) 48 r) : ∃ x : Stp, r = stpE x ∧ okS x := by
  obtain ⟨_, _, rfl, ⟨a, rfl, ha⟩, _, _, rfl, ⟨b, rfl, hb⟩, _, _, rfl, ⟨c, rfl, hc⟩, _, _, rfl, ⟨e, rfl, he⟩, rfl⟩ := h
  have ha := bounds_u8 (by exact ha)
  have hb := bounds_u8 (by exact hb)
  have hc := bounds_u8 (by exact hc)
  have he := bounds_u8 (by exact he)
  refine ⟨⟨a.toNat, b.toNat, c.toNat, e.toNat⟩, ?_, ?_⟩
  · simp only [stpE, u8]
    rw [Int.toNat_of_nonneg (by omega), Int.toNat_of_nonneg (by omega), Int.toNat_of_nonneg (by omega), Int.toNat_of_nonneg (by omega)]
    rfl
  · refine ⟨?_, ?_, ?_, ?_⟩ <;> simp only [] <;> omega
theorem dat_stps {n : Nat} {r : List DV} (h : Dat tt (n + 3) 40 r) : ∃ l : List Stp, r = [.lst 4 (l.map stpE) false] ∧ l.length ≤ maxLen ∧ ∀ x ∈ l, okS x := by
  obtain ⟨es, rfl, hl, hes⟩ := h
  obtain ⟨d, rfl, hd⟩ := list_data (f := stpE) (Q := okS) (fun r hr => dat_stp (n := n) (hes r hr))
  exact ⟨d, rfl, by simpa using hl, hd⟩
theorem law4 (dvs : List DV) (h : DatAll tt 6 [23, 40] dvs) : Ret Try.prog 4 dvs (.v (.bool true)) := by
  obtain ⟨a1, _, rfl, h1, a2, _, rfl, h2, rfl⟩ := h
  obtain ⟨ms, rfl, hms⟩ := dat_ints (n := 4) h1
  obtain ⟨l, rfl, hl, hok⟩ := dat_stps (n := 3) h2
  exact r4 ms hms l hl hok
end Go.Proofs.Ythdpjinchanceaa
