/- The laws of this seat, part OwB: contracts of the functions, plain laws. No conditions. -/
import Derived.Test.YtmbniilpgbjcfaaOwA
set_option linter.unusedSimpArgs false
set_option linter.unusedVariables false
set_option maxRecDepth 100000
namespace Go.Proofs.Ytmbniilpgbjcfaa
open Go.Lift
theorem nodup_len {α : Type} [DecidableEq α] : ∀ {a b : List α}, a.Nodup → (∀ x ∈ a, x ∈ b) → a.length ≤ b.length
  | [], _, _, _ => Nat.zero_le _
  | x :: a, b, hn, hs => by
    rw [List.nodup_cons] at hn
    have hx := hs x (List.mem_cons_self ..)
    have := nodup_len (b := b.erase x) hn.2 (fun y hy => (List.mem_erase_of_ne (fun e => hn.1 (by rw [← e]; exact hy))).2 (hs y (List.mem_cons_of_mem _ hy)))
    rw [List.length_erase_of_mem hx] at this
    have := List.length_pos_of_mem hx
    simp only [List.length_cons]
    omega
theorem sameI_iff {a b : List Int} : sameI a b = true ↔ a = b := by
  constructor
  · intro h
    simp only [sameI, Bool.and_eq_true, decide_eq_true_eq, allB_true] at h
    refine List.ext_getElem (by omega) fun i h1 h2 => ?_
    have := h.2 i h1
    simpa [h1, h2] using this
  · rintro rfl
    exact sameI_refl a
theorem filter_two {β : Type} {p q : β → Bool} (h : ∀ x, p x = true → q x = true → False) : ∀ l : List β, (l.filter p).length + (l.filter q).length ≤ l.length
  | [] => Nat.le_refl _
  | x :: l => by
    have ih := filter_two h l
    have hx := h x
    rw [List.filter_cons, List.filter_cons]
    cases hp : p x <;> cases hq : q x <;> simp_all <;> omega
theorem view_n {v : View} (hv : viewB v = true) : 1 ≤ v.mem.length ∧ v.mem.length ≤ 16 := by
  have hid : idsB v.mem 16 = true := by
    simp only [viewB, Bool.and_eq_true] at hv
    exact hv.2
  rw [ids_eq] at hid
  simp only [Bool.and_eq_true, decide_eq_true_eq] at hid
  omega
theorem cnt_in {v : View} (hv : viewB v = true) : (!(decide (1 ≤ (v.mem.length : Int)) && decide ((v.mem.length : Int) ≤ 16))) = false := by
  have hn := view_n hv
  rw [decide_eq_true (by omega), decide_eq_true (by omega)]
  rfl
theorem maj_n {v : View} (hv : viewB v = true) : majB v.mem.length = ((v.mem.length / 2 + 1 : Nat) : Int) := by
  have hn := view_n hv
  unfold majB
  rw [cnt_in hv]
  show IntKind.i64.wrap _ = _
  have h1 : (v.mem.length : Int).tdiv 2 = ((v.mem.length / 2 : Nat) : Int) := rfl
  rw [h1, wrap_i64 (n := ((v.mem.length / 2 : Nat) : Int)) (by omega) (by omega), wrap_i64 (by omega) (by omega)]
  omega
theorem fast_n {v : View} (hv : viewB v = true) : fastB v.mem.length = ((v.mem.length - (v.mem.length - 1) / 4 : Nat) : Int) := by
  have hn := view_n hv
  unfold fastB
  rw [cnt_in hv]
  show IntKind.i64.wrap _ = _
  rw [wrap_i64 (n := (v.mem.length : Int) - 1) (by omega) (by omega)]
  have h1 : ((v.mem.length : Int) - 1).tdiv 4 = (((v.mem.length - 1) / 4 : Nat) : Int) := by
    have : (v.mem.length : Int) - 1 = ((v.mem.length - 1 : Nat) : Int) := by omega
    rw [this]
    rfl
  rw [h1, wrap_i64 (n := (((v.mem.length - 1) / 4 : Nat) : Int)) (by omega) (by omega), wrap_i64 (by omega) (by omega)]
  omega
theorem in_mem {l : List Int} {x : Int} (h : inB l x = true) : x ∈ l := by
  rcases hf : (List.range l.length).find? (fun i => decide (l[i]? = some x)) with _ | n
  · simp only [inB, placeB, findB, hf] at h
    cases h
  · have hp := List.find?_some hf
    simp only [decide_eq_true_eq] at hp
    exact List.mem_of_getElem? hp
theorem view_hi {v : View} (hv : viewB v = true) {x : Int} (h : inB v.mem x = true) : 1 ≤ x ∧ x ≤ 1000 := by
  have hid : idsB v.mem 16 = true := by
    simp only [viewB, Bool.and_eq_true] at hv
    exact hv.2
  rw [ids_eq] at hid
  simp only [Bool.and_eq_true] at hid
  have hr := rise_iff.1 hid.2
  obtain ⟨i, hi, rfl⟩ := List.getElem_of_mem (in_mem h)
  exact ⟨(hr i hi).1, (hr i hi).2.1⟩
theorem box_le {v : View} {l : List Bal} (h : boxB v l = true) : l.length ≤ v.mem.length := by
  have hv : viewB v = true := by
    simp only [boxB, Bool.and_eq_true] at h
    exact h.1
  have hb := (box_iff hv).1 h
  have := nodup_len (a := l.map (·.mem)) (b := v.mem) (by
    refine List.Pairwise.map _ (fun a b hab => ?_) hb.2
    exact Int.ne_of_lt hab) (fun x hx => by
    obtain ⟨b, hb2, rfl⟩ := List.mem_map.1 hx
    exact in_mem (hb.1 b hb2).1)
  simpa using this
def ldr (l : List Bal) : Nat → List Int × Int
  | 0 => ([], 0)
  | i + 1 => bif decide ((ldr l i).2 < (votesN l (l.getD i bal0).cut : Int)) then ((l.getD i bal0).cut, (votesN l (l.getD i bal0).cut : Int)) else ldr l i
theorem ldr_ge (l : List Bal) : ∀ i j, j < i → (votesN l (l.getD j bal0).cut : Int) ≤ (ldr l i).2
  | i + 1, j, h => by
    unfold ldr
    by_cases hd : (ldr l i).2 < (votesN l (l.getD i bal0).cut : Int)
    · rw [decide_eq_true hd, cond_true]
      rcases Nat.lt_succ_iff_lt_or_eq.1 h with h | rfl
      · have := ldr_ge l i j h
        simp only
        omega
      · exact Int.le_refl _
    · rw [decide_eq_false hd, cond_false]
      rcases Nat.lt_succ_iff_lt_or_eq.1 h with h | rfl
      · exact ldr_ge l i j h
      · omega
theorem ldr_at (l : List Bal) : ∀ i, ldr l i = ([], 0) ∨ ∃ j, j < i ∧ ldr l i = ((l.getD j bal0).cut, (votesN l (l.getD j bal0).cut : Int))
  | 0 => .inl rfl
  | i + 1 => by
    unfold ldr
    by_cases hd : (ldr l i).2 < (votesN l (l.getD i bal0).cut : Int)
    · rw [decide_eq_true hd, cond_true]
      exact .inr ⟨i, Nat.lt_succ_self _, rfl⟩
    · rw [decide_eq_false hd, cond_false]
      rcases ldr_at l i with h | ⟨j, h1, h2⟩
      · exact .inl h
      · exact .inr ⟨j, by omega, h2⟩
theorem votes_two {l : List Bal} {c d : List Int} (h : c ≠ d) : votesN l c + votesN l d ≤ l.length :=
  filter_two (fun x h1 h2 => h ((sameI_iff.1 h1).symm.trans (sameI_iff.1 h2))) l
theorem win_no {v : View} {l : List Bal} (h : decide ((ldr l l.length).2 < fastB v.mem.length) = true) : winR v l = ([], false) := by
  unfold winR
  cases hb : boxB v l
  · rfl
  · have hn : l.find? (fun b => decide (fastB v.mem.length ≤ (votesN l b.cut : Int))) = none := List.find?_eq_none.2 (fun b hb => by
      obtain ⟨j, hj, rfl⟩ := List.getElem_of_mem hb
      have := ldr_ge l l.length j hj
      have hg : l.getD j bal0 = l[j] := by simp [hj]
      rw [hg] at this
      have := of_decide_eq_true h
      simp only [decide_eq_true_eq]
      omega)
    rw [hn]
    rfl
theorem win_yes {v : View} {l : List Bal} (hb : boxB v l = true) (h : decide ((ldr l l.length).2 < fastB v.mem.length) = false) : winR v l = ((ldr l l.length).1, true) := by
  have hv : viewB v = true := by
    simp only [boxB, Bool.and_eq_true] at hb
    exact hb.1
  have hl := box_le hb
  have hn := view_n hv
  have hf := fast_n hv
  have h := of_decide_eq_false h
  rcases ldr_at l l.length with e | ⟨j, hj, e⟩
  · rw [e] at h
    simp only at h
    omega
  · rw [e] at h ⊢
    simp only at h ⊢
    have hg : l.getD j bal0 = l[j] := by simp [hj]
    rw [hg] at h ⊢
    unfold winR
    rw [hb]
    cases hf2 : l.find? (fun b => decide (fastB v.mem.length ≤ (votesN l b.cut : Int))) with
    | none =>
      have := List.find?_eq_none.1 hf2 _ (List.getElem_mem hj)
      simp only [decide_eq_true_eq] at this
      omega
    | some b =>
      have hp := List.find?_some hf2
      simp only [decide_eq_true_eq] at hp
      have : b.cut = l[j].cut := Classical.byContradiction fun hne => by
        have := votes_two (l := l) hne
        omega
      simp only [Bool.not_true, cond_false, this]
theorem ldr_len {l : List Bal} {N : Nat} (hc : ∀ b ∈ l, b.cut.length ≤ N) : (ldr l l.length).1.length ≤ N := by
  rcases ldr_at l l.length with e | ⟨j, hj, e⟩
  · rw [e]
    exact Nat.zero_le _
  · rw [e]
    have hg : l.getD j bal0 = l[j] := by simp [hj]
    rw [hg]
    exact hc _ (List.getElem_mem hj)
theorem c_fastvote_leader (l : List Bal) (hl : l.length ≤ 500000) (hc : ∀ b ∈ l, b.cut.length ≤ 1000000) : Ret Try.prog 107 [.lst 2 (l.map balE) false] (.tup [.lst 1 ((ldr l l.length).1.map intE) false, i64 (ldr l l.length).2]) := by
  have hl' : l.length ≤ 9223372036854775807 := by omega
  have hll := ldr_len hc
  refine ret_of_body (fn := Try.f107) (c := Try.f107.body.getD .skip) hm hT (by kernel_rfl) Try.func107 (by kernel_rfl) (by kernel_rfl) (by kernel_rfl) (by kernel_rfl) ?_
  repeat' ((conv => whnf); first | refine And.intro (fun h => h) ?_ | refine dcond_t (by assumption) ?_ | refine dcond_f (by assumption) ?_ | (refine dcond_intro ?_ ?_ <;> intro h) | exact .refl | refine And.intro (by kernel_rfl) ?_ | refine And.intro ⟨fun h => h, fun h => h⟩ ?_ | refine Exists.intro false ?_ | (refine And.intro ?_ ?_; focus (simp; done)) | fail)
  refine ⟨Nat, fun i => ⟨[(0, .lst 2 (l.map balE) false), (2, .lst 1 ((ldr l i).1.map intE) false), (3, i64 (ldr l i).2), (7, i64 (l.map balE).length), (8, i64 i)], []⟩, fun i => i ≤ l.length, fun i => l.length - i, [], ⟨0, Nat.zero_le _, ?_⟩, ?_⟩
  · conv => whnf
    exact ⟨⟨.refl, .nl, .refl, .refl, .refl, trivial⟩, trivial, rfl⟩
  · intro i hi
    repeat' ((conv => whnf); first | refine And.intro (fun h => h) ?_ | refine dcond_t (by assumption) ?_ | refine dcond_f (by assumption) ?_ | (refine dcond_intro ?_ ?_ <;> intro h) | exact .refl | refine And.intro (by kernel_rfl) ?_ | refine And.intro ⟨fun h => h, fun h => h⟩ ?_ | refine .inl ⟨_, _, DleAll_refl _, c_slices_Clone_int _ (by omega), ?_⟩ | refine ⟨_, _, DleAll_refl _, fun _ => c_slices_Clone_int _ (by omega), ?_⟩ | refine ⟨_, _, DleAll_refl _, c_slices_Clone_int _ (by omega), ?_⟩ | refine Exists.intro false ?_ | (refine And.intro ?_ ?_; focus (simp; done)) | fail)
    · have hlt : i < l.length := by simpa using h
      clear h
      have hg : l.getD i bal0 = l[i] := by simp [hlt]
      have e114 := c_fastvote_Votes l hl (fun b hb => Nat.le_trans (hc b hb) (by decide)) l[i].cut
      have hs : ldr l (i + 1) = bif decide ((ldr l i).2 < (votesN l l[i].cut : Int)) then (l[i].cut, (votesN l l[i].cut : Int)) else ldr l i := by
        rw [← hg]
        rfl
      repeat' ((conv => whnf); first | refine And.intro (fun h => h) ?_ | refine dcond_t (by assumption) ?_ | refine dcond_f (by assumption) ?_ | (refine dcond_intro ?_ ?_ <;> intro h) | exact .refl | refine And.intro (by kernel_rfl) ?_ | refine And.intro ⟨fun h => h, fun h => h⟩ ?_ | refine ⟨_, _, And.intro ⟨rfl, get_map hlt⟩ ?_⟩ | refine .inl ⟨_, _, DleAll_refl _, e114, ?_⟩ | refine ⟨_, _, DleAll_refl _, fun _ => e114, ?_⟩ | refine ⟨_, _, DleAll_refl _, e114, ?_⟩ | refine Exists.intro false ?_ | (refine And.intro ?_ ?_; focus (simp; done)) | fail)
      all_goals (conv => whnf)
      · refine ⟨i + 1, hlt, by simp only []; omega, ?_⟩
        conv => whnf
        rw [h, cond_true] at hs
        refine ⟨⟨.refl, dle_lst (by rw [hs]), dle_int (by rw [hs]), .refl, dle_int (wrap_succ (by omega)), trivial⟩, trivial, rfl⟩
      · refine ⟨i + 1, hlt, by simp only []; omega, ?_⟩
        conv => whnf
        rw [h, cond_false] at hs
        refine ⟨⟨.refl, dle_lst (by rw [hs]), dle_int (by rw [hs]), .refl, dle_int (wrap_succ (by omega)), trivial⟩, trivial, rfl⟩
    · have hge : ¬ i < l.length := by simpa using h
      have : i = l.length := by omega
      subst this
      clear h
      repeat' ((conv => whnf); first | refine And.intro (fun h => h) ?_ | refine dcond_t (by assumption) ?_ | refine dcond_f (by assumption) ?_ | (refine dcond_intro ?_ ?_ <;> intro h) | exact .refl | refine And.intro (by kernel_rfl) ?_ | refine And.intro ⟨fun h => h, fun h => h⟩ ?_ | refine .inl ⟨_, _, DleAll_refl _, c_slices_Clone_int _ hll, ?_⟩ | refine ⟨_, _, DleAll_refl _, fun _ => c_slices_Clone_int _ hll, ?_⟩ | refine ⟨_, _, DleAll_refl _, c_slices_Clone_int _ hll, ?_⟩ | refine Exists.intro false ?_ | (refine And.intro ?_ ?_; focus (simp; done)) | fail)
theorem c_fastvote_Winner (v : View) (hv : v.mem.length ≤ 500000) (l : List Bal) (hl : l.length ≤ 500000) (hc : ∀ b ∈ l, b.cut.length ≤ 500000) : Ret Try.prog 89 [.agg (viewE v), .lst 2 (l.map balE) false] (.tup [.lst 1 ((winR v l).1.map intE) false, .v (.bool (winR v l).2)]) := by
  have hl' : l.length ≤ maxLen := by simp only [maxLen]; omega
  have e40 := c_fastvote_Valid v hv l hl' hc
  have e107 := c_fastvote_leader l hl (fun b hb => Nat.le_trans (hc b hb) (by omega))
  have e108 := c_view_FastQuorum (v.mem.length : Int)
  have w0 : boxB v l = false → winR v l = ([], false) := fun h => by
    unfold winR
    rw [h]
    rfl
  have w1 := @win_no v l
  have w2 := @win_yes v l
  generalize winR v l = W at *
  generalize ldr l l.length = X at *
  generalize fastB v.mem.length = F at *
  have e108' : Ret Try.prog 108 [i64 ((v.mem.map intE).length : Int)] (i64 F) := by
    rw [List.length_map]
    exact e108
  refine ret_of_body (fn := Try.f89) (c := Try.f89.body.getD .skip) hm hT (by kernel_rfl) Try.func89 (by kernel_rfl) (by kernel_rfl) (by kernel_rfl) (by kernel_rfl) ?_
  repeat' ((conv => whnf); first | refine And.intro (fun h => h) ?_ | refine dcond_t (by assumption) ?_ | refine dcond_f (by assumption) ?_ | (refine dcond_intro ?_ ?_ <;> intro h) | exact .refl | refine And.intro (by kernel_rfl) ?_ | refine And.intro ⟨fun h => h, fun h => h⟩ ?_ | refine .inl ⟨_, _, DleAll_refl _, e40, ?_⟩ | refine ⟨_, _, DleAll_refl _, fun _ => e40, ?_⟩ | refine ⟨_, _, DleAll_refl _, e40, ?_⟩ | refine .inl ⟨_, _, DleAll_refl _, e107, ?_⟩ | refine ⟨_, _, DleAll_refl _, fun _ => e107, ?_⟩ | refine ⟨_, _, DleAll_refl _, e107, ?_⟩ | refine .inl ⟨_, _, DleAll_refl _, e108', ?_⟩ | refine ⟨_, _, DleAll_refl _, fun _ => e108', ?_⟩ | refine ⟨_, _, DleAll_refl _, e108', ?_⟩ | refine Exists.intro false ?_ | (refine And.intro ?_ ?_; focus (simp; done)) | fail)
  all_goals (conv => whnf)
  · rw [w0 (by simpa using h)]
    exact dle_tupA ⟨.nl, .refl, trivial⟩
  · rw [w1 h]
    exact dle_tupA ⟨.nl, .refl, trivial⟩
  · rename_i hb
    rw [w2 (by simpa using hb) h]
    exact .refl
end Go.Proofs.Ytmbniilpgbjcfaa

set_option maxRecDepth 100000
namespace Go.Proofs.Ytmbniilpgbjcfaa
open Go.Lift
theorem m_slices_Clone_bal (l : List Bal) (hl : l.length ≤ 1000000) : RetM Try.prog 87 [] [.lst 2 (l.map balE) false] [] [.row 88 2 (l.map balE)] (.own 0) := by
  refine retM_of_bodyA (fn := Try.f87) (c := Try.f87.body.getD .skip) hm hT (by kernel_rfl) Try.func87 (by kernel_rfl) (by kernel_rfl) (by kernel_rfl) (by kernel_rfl) (by kernel_rfl) ?_
  repeat' ((conv => whnf); first | refine And.intro (fun h => h) ?_ | refine dcond_t (by assumption) ?_ | refine dcond_f (by assumption) ?_ | (refine dcond_intro ?_ ?_ <;> intro h) | exact .refl | refine And.intro (by kernel_rfl) ?_ | refine And.intro ⟨fun h => h, fun h => h⟩ ?_ | refine Exists.intro false ?_ | (refine And.intro ?_ ?_; focus (simp; done)) | fail)
  refine And.intro (fun hnil => ?_) ?_
  · repeat' ((conv => whnf); first | refine And.intro (fun h => h) ?_ | refine dcond_t (by assumption) ?_ | refine dcond_f (by assumption) ?_ | (refine dcond_intro ?_ ?_ <;> intro h) | exact .refl | refine And.intro (by kernel_rfl) ?_ | refine And.intro ⟨fun h => h, fun h => h⟩ ?_ | refine Exists.intro false ?_ | (refine And.intro ?_ ?_; focus (simp; done)) | fail)
    all_goals (conv => whnf)
    refine ⟨[.slot 2 88 2], ?_⟩
    conv => whnf
    rw [hnil]
    exact ⟨.refl, ⟨.refl, trivial⟩, by rfl⟩
  · repeat' ((conv => whnf); first | refine And.intro (fun h => h) ?_ | refine dcond_t (by assumption) ?_ | refine dcond_f (by assumption) ?_ | (refine dcond_intro ?_ ?_ <;> intro h) | exact .refl | refine And.intro (by kernel_rfl) ?_ | refine And.intro ⟨fun h => h, fun h => h⟩ ?_ | refine Exists.intro false ?_ | (refine And.intro ?_ ?_; focus (simp; done)) | fail)
    all_goals (conv => whnf)
    refine And.intro (fits2 (by simp; omega)) ?_
    repeat' ((conv => whnf); first | refine And.intro (fun h => h) ?_ | refine dcond_t (by assumption) ?_ | refine dcond_f (by assumption) ?_ | (refine dcond_intro ?_ ?_ <;> intro h) | exact .refl | refine And.intro (by kernel_rfl) ?_ | refine And.intro ⟨fun h => h, fun h => h⟩ ?_ | refine Exists.intro false ?_ | (refine And.intro ?_ ?_; focus (simp; done)) | fail)
    all_goals (conv => whnf)
    refine ⟨[], ?_⟩
    conv => whnf
    exact ⟨.refl, ⟨.refl, trivial⟩, by rfl⟩
theorem cast_dup {v : View} {l : List Bal} {b : Bal} (h0 : (!boxB v l || !appB v b.cut) = false) (h1 : (!inB v.mem b.mem) = false) {x : Bal} (hx : x ∈ l) (he : x.mem = b.mem) : castR v l b = ([], 7) := by
  have : decide (0 ≤ ofBal l b.mem) = true := by
    cases h : decide (0 ≤ ofBal l b.mem)
    · exact absurd he (ofb_neg h x hx)
    · rfl
  simp only [castR, h0, h1, this, cond_true, cond_false]
theorem cast_new {v : View} {l : List Bal} {b : Bal} (h0 : (!boxB v l || !appB v b.cut) = false) (h1 : (!inB v.mem b.mem) = false) (hn : ∀ x ∈ l, x.mem ≠ b.mem) : castR v l b = (insB l b, 0) := by
  have : decide (0 ≤ ofBal l b.mem) = false := by
    cases h : decide (0 ≤ ofBal l b.mem)
    · rfl
    · obtain ⟨x, hx, he⟩ := ofb_pos h
      exact absurd he (hn x hx)
  simp only [castR, h0, h1, this, cond_false]
def outB (l : List Bal) (b : Bal) (i : Nat) : List Bal := if i ≤ l.length then putB l b i else insB l b
theorem outB_len (l : List Bal) (b : Bal) (i : Nat) (h : i ≤ l.length + 1) : (outB l b i).length ≤ i + 1 := by
  unfold outB
  split
  · exact putb_len l b i
  · have := insB_len l b
    omega
def sen : List DV := [i64 1001, .nl]
theorem c_fastvote_Cast (v : View) (hv : v.mem.length ≤ 400000) (l : List Bal) (hl : l.length ≤ 400000) (hc : ∀ b ∈ l, b.cut.length ≤ 400000) (b : Bal) (hb : b.cut.length ≤ 400000) : Ret Try.prog 60 [.agg (viewE v), .lst 2 (l.map balE) false, .agg (balE b)] (.tup [.lst 2 ((castR v l b).1.map balE) false, i64 (castR v l b).2]) := by
  have hl' : l.length ≤ maxLen := by simp only [maxLen]; omega
  have h1 : v.mem.length ≤ maxLen := by simp only [maxLen]; omega
  have e40 := c_fastvote_Valid v (by omega) l hl' (fun b hb => Nat.le_trans (hc b hb) (by omega))
  have e74 := c_fastvote_applicable v (by omega) b.cut (by omega)
  refine ret_of_body (fn := Try.f60) (c := Try.f60.body.getD .skip) hm hT (by kernel_rfl) Try.func60 (by kernel_rfl) (by kernel_rfl) (by kernel_rfl) (by kernel_rfl) ?_
  repeat' ((conv => whnf); first | refine And.intro (fun h => h) ?_ | refine dcond_t (by assumption) ?_ | refine dcond_f (by assumption) ?_ | (refine dcond_intro ?_ ?_ <;> intro h) | exact .refl | refine And.intro (by kernel_rfl) ?_ | refine And.intro ⟨fun h => h, fun h => h⟩ ?_ | refine .inl ⟨_, _, DleAll_refl _, e40, ?_⟩ | refine ⟨_, _, DleAll_refl _, fun _ => e40, ?_⟩ | refine ⟨_, _, DleAll_refl _, e40, ?_⟩ | refine .inl ⟨_, _, DleAll_refl _, e74, ?_⟩ | refine ⟨_, _, DleAll_refl _, fun _ => e74, ?_⟩ | refine ⟨_, _, DleAll_refl _, e74, ?_⟩ | refine .inl ⟨_, _, DleAll_refl _, c_view_Contains _ h1 _, ?_⟩ | refine ⟨_, _, DleAll_refl _, fun _ => c_view_Contains _ h1 _, ?_⟩ | refine ⟨_, _, DleAll_refl _, c_view_Contains _ h1 _, ?_⟩ | refine .inr ⟨[], [], _, [], _, _, m_slices_Clone_bal l (by omega), by rfl, trivial, ⟨.refl, trivial⟩, ?_⟩ | refine And.intro (fits2 (by simp <;> omega)) ?_ | refine Exists.intro false ?_ | (refine And.intro ?_ ?_; focus (simp; done)) | fail)
  all_goals (conv => whnf)
  · simp only [castR, h, cond_true]
    exact dle_tupA ⟨.nl, .refl, trivial⟩
  · rename_i h0
    simp only [castR, h0, h, cond_true, cond_false]
    exact dle_tupA ⟨.nl, .refl, trivial⟩
  · rename_i h0
    have h2 := h
    clear h
    have hbx : boxB v l = true ∧ viewB v = true ∧ inB v.mem b.mem = true := by
      have h3 : boxB v l = true := by
        cases hb : boxB v l
        · rw [hb] at h0; cases h0
        · rfl
      refine ⟨h3, ?_, by simpa using h2⟩
      simp only [boxB, Bool.and_eq_true] at h3
      exact h3.1
    have hbi := view_hi hbx.2.1 hbx.2.2
    have hli := ((box_iff hbx.2.1).1 hbx.1).1
    refine ⟨Nat, fun i => ⟨[(5, .lp 1 0), (8, .own 4), (9, .v (.bool (decide (frontB l b.mem < i)))), (35, .own 2), (36, i64 ((l.length + 1 : Nat) : Int)), (37, i64 i)], [.cells 24 (viewE v), .cells 88 (balE b), .row 88 2 (l.map balE ++ [sen]), .dead, .row 88 2 ((outB l b i).map balE)]⟩, fun i => i ≤ l.length + 1 ∧ ∀ j (hj : j < l.length), j < i → l[j].mem ≠ b.mem, fun i => l.length + 1 - i, [.slot 8 88 2], ⟨0, ⟨Nat.zero_le _, fun j hj h => absurd h (Nat.not_lt_zero _)⟩, ?_⟩, ?_⟩
    · conv => whnf
      refine ⟨⟨.refl, .refl, .refl, .refl, dle_int (by simp), .refl, trivial⟩, ⟨.refl, .refl, .refl, .dead, ole_row ?_, trivial⟩, by rfl⟩
      simp [outB, putB]
    · intro i ⟨hi, hall⟩
      have hol := outB_len l b i hi
      have hlr : (l.map balE ++ [sen]).length = l.length + 1 := by simp
      conv => whnf
      refine dcond_intro ?_ ?_ <;> intro h
      · have hlt1 : i < l.length + 1 := by
          have := of_decide_eq_true h
          omega
        clear h
        have hlt0 : i < (l.map balE ++ [sen]).length := by omega
        rcases Nat.lt_or_ge i l.length with hlt | hge
        · have hgi : (l.map balE ++ [sen])[i]? = some (balE l[i]) := by
            rw [List.getElem?_append_left (by simpa using hlt)]
            exact get_map hlt
          have hxi := hli _ (List.getElem_mem hlt)
          have hxh := view_hi hbx.2.1 hxi.1
          have hcx := hc _ (List.getElem_mem hlt)
          have ho1 : outB l b (i + 1) = putB l b (i + 1) := if_pos (by omega)
          have ho0 : outB l b i = putB l b i := if_pos (by omega)
          have hst1 := @putb_step1 l b i hlt
          have hst2 := @putb_step2 l b i hlt
          have hnow := @putb_now l b i hlt
          have hnot := @putb_not l b i hlt
          have hfl := @putb_flag l b i
          have hdup := fun h => cast_dup h0 h2 (List.getElem_mem hlt) h
          obtain ⟨x, hxx⟩ : ∃ x, l[i] = x := ⟨_, rfl⟩
          rw [hxx] at hgi hxi hxh hcx hst1 hst2 hnow hnot hdup
          repeat' ((conv => whnf); first | refine And.intro (fun h => h) ?_ | refine dcond_t (by assumption) ?_ | refine dcond_f (by assumption) ?_ | (refine dcond_intro ?_ ?_ <;> intro h) | exact .refl | refine And.intro (by kernel_rfl) ?_ | refine And.intro ⟨fun h => h, fun h => h⟩ ?_ | refine ⟨i, And.intro ⟨rfl, hlt0⟩ ?_⟩ | refine ⟨balE x, And.intro hgi ?_⟩ | refine ⟨balE x, hgi, ?_⟩ | refine .inl ⟨_, _, DleAll_refl _, c_slices_Clone_int b.cut (by omega), ?_⟩ | refine ⟨_, _, DleAll_refl _, fun _ => c_slices_Clone_int b.cut (by omega), ?_⟩ | refine ⟨_, _, DleAll_refl _, c_slices_Clone_int b.cut (by omega), ?_⟩ | refine .inl ⟨_, _, DleAll_refl _, c_slices_Clone_int x.cut (by omega), ?_⟩ | refine ⟨_, _, DleAll_refl _, fun _ => c_slices_Clone_int x.cut (by omega), ?_⟩ | refine ⟨_, _, DleAll_refl _, c_slices_Clone_int x.cut (by omega), ?_⟩ | refine And.intro (fits2 (by simp <;> omega)) ?_ | refine Exists.intro false ?_ | (refine And.intro ?_ ?_; focus (simp; done)) | fail)
          all_goals (conv => whnf)
          · rw [hdup (of_decide_eq_true h)]
            exact dle_tupA ⟨.nl, .refl, trivial⟩
          · rename_i hne hpl
            have hne := of_decide_eq_false hne
            have e := hnow (by
              simp only [Bool.and_eq_true, decide_eq_true_eq] at hpl ⊢
              exact ⟨hpl.1, by omega⟩)
            have hflag : true = decide (frontB l b.mem < i + 1) := by
              rw [decide_eq_true (by omega)]
            refine ⟨i + 1, ⟨by omega, fun j hj hji => ?_⟩, by simp only []; omega, ?_⟩
            · rcases Nat.lt_succ_iff_lt_or_eq.1 hji with hji | rfl
              · exact hall j hj hji
              · rw [hxx]
                exact hne
            · conv => whnf
              refine ⟨⟨.refl, .refl, dle_bool hflag, .refl, .refl, dle_int (wrap_succ (by omega)), trivial⟩, ⟨.refl, .refl, .refl, .dead, ole_row ?_, trivial⟩, by rfl⟩
              rw [ho1, ← hst1 e, ho0]
              simp [balE, dcells]
              all_goals first | exact ⟨rfl, rfl⟩ | rfl
          · exact absurd (of_decide_eq_false h) (by omega)
          · rename_i hne hpl
            have hne := of_decide_eq_false hne
            have e := hnot (by
              rw [← hpl]
              congr 1
              exact decide_eq_decide.2 ⟨fun h => by omega, fun h => by omega⟩)
            refine ⟨i + 1, ⟨by omega, fun j hj hji => ?_⟩, by simp only []; omega, ?_⟩
            · rcases Nat.lt_succ_iff_lt_or_eq.1 hji with hji | rfl
              · exact hall j hj hji
              · rw [hxx]
                exact hne
            · conv => whnf
              refine ⟨⟨.refl, .refl, dle_bool (hfl e), .refl, .refl, dle_int (wrap_succ (by omega)), trivial⟩, ⟨.refl, .refl, .refl, .dead, ole_row ?_, trivial⟩, by rfl⟩
              rw [ho1, ← hst2 e, ho0]
              simp [balE, dcells]
              all_goals first | exact ⟨rfl, rfl⟩ | rfl
          · exact absurd (of_decide_eq_false h) (by omega)
        · have hie : i = l.length := by omega
          subst hie
          have hgi : (l.map balE ++ [sen])[l.length]? = some sen := by
            rw [List.getElem?_append_right (by simp)]
            simp
          have ho1 : outB l b (l.length + 1) = insB l b := if_neg (by omega)
          have ho0 : outB l b l.length = putB l b l.length := if_pos (by omega)
          have hst1 := @putb_end1 l b
          have hst2 := @putb_end2 l b
          have hfr := frontB_le l b.mem
          have hflag : true = decide (frontB l b.mem < l.length + 1) := by
            rw [decide_eq_true (by omega)]
          repeat' ((conv => whnf); first | refine And.intro (fun h => h) ?_ | refine dcond_t (by assumption) ?_ | refine dcond_f (by assumption) ?_ | (refine dcond_intro ?_ ?_ <;> intro h) | exact .refl | refine And.intro (by kernel_rfl) ?_ | refine And.intro ⟨fun h => h, fun h => h⟩ ?_ | refine ⟨l.length, And.intro ⟨rfl, hlt0⟩ ?_⟩ | refine ⟨sen, And.intro hgi ?_⟩ | refine ⟨sen, hgi, ?_⟩ | refine .inl ⟨_, _, DleAll_refl _, c_slices_Clone_int b.cut (by omega), ?_⟩ | refine ⟨_, _, DleAll_refl _, fun _ => c_slices_Clone_int b.cut (by omega), ?_⟩ | refine ⟨_, _, DleAll_refl _, c_slices_Clone_int b.cut (by omega), ?_⟩ | refine And.intro (fits2 (by simp <;> omega)) ?_ | refine Exists.intro false ?_ | (refine And.intro ?_ ?_; focus (simp; done)) | fail)
          all_goals (conv => whnf)
          · have := of_decide_eq_true h
            omega
          · have hpl := h
            have hd : decide (frontB l b.mem < l.length) = false := by
              simp only [Bool.and_eq_true, Bool.not_eq_true'] at hpl
              exact hpl.1
            refine ⟨l.length + 1, ⟨Nat.le_refl _, fun j hj hji => hall j hj hj⟩, by simp only []; omega, ?_⟩
            conv => whnf
            refine ⟨⟨.refl, .refl, dle_bool hflag, .refl, .refl, dle_int (wrap_succ (by omega)), trivial⟩, ⟨.refl, .refl, .refl, .dead, ole_row ?_, trivial⟩, by rfl⟩
            rw [ho1, ← hst2 hd, ho0]
            simp [balE, dcells]
            all_goals first | exact ⟨rfl, rfl⟩ | rfl
          · have hpl := h
            have hd : decide (frontB l b.mem < l.length) = true := by
              cases hd : decide (frontB l b.mem < l.length)
              · rw [hd, decide_eq_true (show b.mem < 1001 by omega)] at hpl
                cases hpl
              · rfl
            refine ⟨l.length + 1, ⟨Nat.le_refl _, fun j hj hji => hall j hj hj⟩, by simp only []; omega, ?_⟩
            conv => whnf
            refine ⟨⟨.refl, .refl, dle_bool (hd.trans hflag), .refl, .refl, dle_int (wrap_succ (by omega)), trivial⟩, ⟨.refl, .refl, .refl, .dead, ole_row ?_, trivial⟩, by rfl⟩
            rw [ho1, ← hst1 hd, ho0]
      · have hie : i = l.length + 1 := by
          have := of_decide_eq_false h
          omega
        subst hie
        clear h
        repeat' ((conv => whnf); first | refine And.intro (fun h => h) ?_ | refine dcond_t (by assumption) ?_ | refine dcond_f (by assumption) ?_ | (refine dcond_intro ?_ ?_ <;> intro h) | exact .refl | refine And.intro (by kernel_rfl) ?_ | refine And.intro ⟨fun h => h, fun h => h⟩ ?_ | refine Exists.intro false ?_ | (refine And.intro ?_ ?_; focus (simp; done)) | fail)
        all_goals (conv => whnf)
        have ho1 : outB l b (l.length + 1) = insB l b := if_neg (by omega)
        rw [cast_new h0 h2 (fun x hx => by
          obtain ⟨j, hj, rfl⟩ := List.getElem_of_mem hx
          exact hall j hj (by omega)), ho1]
        exact .refl
end Go.Proofs.Ytmbniilpgbjcfaa

set_option maxRecDepth 100000
namespace Go.Proofs.Ytmbniilpgbjcfaa
open Go.Lift
def rkP (v : View) (l : List Rpt) (i : Nat) : Bool := !(decide (0 < (l.getD i rpt0).rank) && !properB v (l.getD i rpt0).rank)
def leP (m : Int) (l : List Rpt) (i : Nat) : Bool := !decide ((l.getD i rpt0).rank < m)
def prB (v : View) (l : List Rpt) : Bool := allB (rkP v l) l.length && repsB v l
theorem c_agreement_reportOf (l : List Rpt) (hl : l.length ≤ maxLen) (x : Int) : Ret Try.prog 78 [.lst 3 (l.map rptE) false, .v (.int .i64 x)] (.v (.int .i64 (ofB l x))) := by
  have hl' : l.length ≤ 9223372036854775807 := hl
  refine ret_of_body (fn := Try.f78) (c := Try.f78.body.getD .skip) hm hT (by kernel_rfl) Try.func78 (by kernel_rfl) (by kernel_rfl) (by kernel_rfl) (by kernel_rfl) ?_
  repeat' ((conv => whnf); first | refine And.intro (fun h => h) ?_ | refine dcond_t (by assumption) ?_ | refine dcond_f (by assumption) ?_ | (refine dcond_intro ?_ ?_ <;> intro h) | exact .refl | refine And.intro (by kernel_rfl) ?_ | refine And.intro ⟨fun h => h, fun h => h⟩ ?_ | refine Exists.intro false ?_ | (refine And.intro ?_ ?_; focus (simp; done)) | fail)
  refine ⟨Nat, fun i => ⟨[(1, .v (.int .i64 x)), (7, .lst 3 (l.map rptE) false), (8, i64 (l.map rptE).length), (9, i64 i)], []⟩, fun i => i ≤ l.length ∧ ∀ j, j < i → decide ((l.getD j rpt0).mem = x) = false, fun i => l.length - i, [], ⟨0, ⟨Nat.zero_le _, by omega⟩, ?_⟩, ?_⟩
  · exact ⟨by repeat' ((conv => whnf); first | exact trivial | refine And.intro (by (conv => arg 1; whnf); first | (with_reducible exact .refl) | exact dle_int (wrap_succ (by omega)) | exact .refl) ?_), by repeat' ((conv => whnf); first | exact trivial | refine And.intro ?_ ?_ | exact .refl), rfl⟩
  · intro i ⟨hi, hall⟩
    repeat' ((conv => whnf); first | refine And.intro (fun h => h) ?_ | refine dcond_t (by assumption) ?_ | refine dcond_f (by assumption) ?_ | (refine dcond_intro ?_ ?_ <;> intro h) | exact .refl | refine And.intro (by kernel_rfl) ?_ | refine And.intro ⟨fun h => h, fun h => h⟩ ?_ | refine Exists.intro false ?_ | (refine And.intro ?_ ?_; focus (simp; done)) | fail)
    · have hlt : i < l.length := by simpa using h
      repeat' ((conv => whnf); first | refine And.intro (fun h => h) ?_ | refine dcond_t (by assumption) ?_ | refine dcond_f (by assumption) ?_ | (refine dcond_intro ?_ ?_ <;> intro h) | exact .refl | refine And.intro (by kernel_rfl) ?_ | refine And.intro ⟨fun h => h, fun h => h⟩ ?_ | refine ⟨_, _, And.intro ⟨rfl, get_map hlt⟩ ?_⟩ | refine Exists.intro false ?_ | (refine And.intro ?_ ?_; focus (simp; done)) | fail)
      · have h2 := h
        refine dle_int (findB_at hlt ?_ hall).symm
        simpa [hlt] using h2
      · have h2 := h
        conv => whnf
        refine ⟨i + 1, ⟨hlt, fun j hj => ?_⟩, by simp only []; omega, ?_⟩
        · rcases Nat.lt_succ_iff_lt_or_eq.1 hj with hj | rfl
          · exact hall j hj
          · simpa [hlt] using h2
        · exact ⟨by repeat' ((conv => whnf); first | exact trivial | refine And.intro (by (conv => arg 1; whnf); first | (with_reducible exact .refl) | exact dle_int (wrap_succ (by omega)) | exact .refl) ?_), by repeat' ((conv => whnf); first | exact trivial | refine And.intro ?_ ?_ | exact .refl), rfl⟩
    · have hge : ¬ i < l.length := by simpa using h
      conv => whnf
      refine dle_int (findB_none (fun j hj => hall j (by omega))).symm
theorem c_agreement_properReports (v : View) (hv : v.mem.length ≤ 500000) (l : List Rpt) (hl : l.length ≤ maxLen) (hc : ∀ r ∈ l, r.cut.length ≤ 500000) : Ret Try.prog 43 [.agg (viewE v), .lst 3 (l.map rptE) false] (.v (.bool (prB v l))) := by
  have hl' : l.length ≤ 9223372036854775807 := hl
  have h1 : v.mem.length ≤ maxLen := Nat.le_trans hv (by decide)
  refine ret_of_body (fn := Try.f43) (c := Try.f43.body.getD .skip) hm hT (by kernel_rfl) Try.func43 (by kernel_rfl) (by kernel_rfl) (by kernel_rfl) (by kernel_rfl) ?_
  repeat' ((conv => whnf); first | refine And.intro (fun h => h) ?_ | refine dcond_t (by assumption) ?_ | refine dcond_f (by assumption) ?_ | (refine dcond_intro ?_ ?_ <;> intro h) | exact .refl | refine And.intro (by kernel_rfl) ?_ | refine And.intro ⟨fun h => h, fun h => h⟩ ?_ | refine Exists.intro false ?_ | (refine And.intro ?_ ?_; focus (simp; done)) | fail)
  refine ⟨Nat, fun i => ⟨[(1, .lst 3 (l.map rptE) false), (2, .lp 0 0), (7, .lst 3 (l.map rptE) false), (8, i64 (l.map rptE).length), (9, i64 i)], [.cells 24 (viewE v)]⟩, fun i => i ≤ l.length ∧ ∀ j, j < i → rkP v l j = true, fun i => l.length - i, [], ⟨0, ⟨Nat.zero_le _, by omega⟩, ?_⟩, ?_⟩
  · exact ⟨by repeat' ((conv => whnf); first | exact trivial | refine And.intro (by (conv => arg 1; whnf); first | (with_reducible exact .refl) | exact dle_int (wrap_succ (by omega)) | exact .refl) ?_), by repeat' ((conv => whnf); first | exact trivial | refine And.intro ?_ ?_ | exact .refl), rfl⟩
  · intro i ⟨hi, hall⟩
    conv => whnf
    refine dcond_intro ?_ ?_ <;> intro h
    · have hlt : i < l.length := by simpa using h
      clear h
      have hg : l.getD i rpt0 = l[i] := by simp [hlt]
      repeat' ((conv => whnf); first | refine And.intro (fun h => h) ?_ | refine dcond_t (by assumption) ?_ | refine dcond_f (by assumption) ?_ | (refine dcond_intro ?_ ?_ <;> intro h) | exact .refl | refine And.intro (by kernel_rfl) ?_ | refine And.intro ⟨fun h => h, fun h => h⟩ ?_ | refine ⟨_, _, And.intro ⟨rfl, get_map hlt⟩ ?_⟩ | refine .inl ⟨_, _, DleAll_refl _, c_agreement_proper _ h1 _, ?_⟩ | refine ⟨_, _, DleAll_refl _, fun _ => c_agreement_proper _ h1 _, ?_⟩ | refine ⟨_, _, DleAll_refl _, c_agreement_proper _ h1 _, ?_⟩ | refine Exists.intro false ?_ | (refine And.intro ?_ ?_; focus (simp; done)) | fail)
      all_goals (conv => whnf)
      · refine dle_bool ?_
        rw [prB, allB_false hlt (by rw [rkP, hg, h]; rfl), Bool.false_and]
      · refine ⟨i + 1, ⟨hlt, fun j hj => ?_⟩, by simp only []; omega, ?_⟩
        · rcases Nat.lt_succ_iff_lt_or_eq.1 hj with hj | rfl
          · exact hall j hj
          · rw [rkP, hg, h]; rfl
        · exact ⟨by repeat' ((conv => whnf); first | exact trivial | refine And.intro (by (conv => arg 1; whnf); first | (with_reducible exact .refl) | exact dle_int (wrap_succ (by omega)) | exact .refl) ?_), by repeat' ((conv => whnf); first | exact trivial | refine And.intro ?_ ?_ | exact .refl), rfl⟩
    · have hge : ¬ i < l.length := by simpa using h
      clear h
      repeat' ((conv => whnf); first | refine And.intro (fun h => h) ?_ | refine dcond_t (by assumption) ?_ | refine dcond_f (by assumption) ?_ | (refine dcond_intro ?_ ?_ <;> intro h) | exact .refl | refine And.intro (by kernel_rfl) ?_ | refine And.intro ⟨fun h => h, fun h => h⟩ ?_ | refine .inl ⟨_, _, DleAll_refl _, c_paxos_ValidReports _ hv _ hl hc, ?_⟩ | refine ⟨_, _, DleAll_refl _, fun _ => c_paxos_ValidReports _ hv _ hl hc, ?_⟩ | refine ⟨_, _, DleAll_refl _, c_paxos_ValidReports _ hv _ hl hc, ?_⟩ | refine Exists.intro false ?_ | (refine And.intro ?_ ?_; focus (simp; done)) | fail)
      all_goals (conv => whnf)
      all_goals (refine dle_bool ?_)
      all_goals (rw [prB, allB_true.2 (fun j hj => hall j (by omega))])
      all_goals rfl
def phaseB (s : Agr) : Bool :=
  bif !decide (s.rank = 0) && (!properB s.view s.rank || !decide (ownerOf s.rank = s.self)) then false
  else bif !(decide (0 < (s.cho.length : Int)) == decide (s.phase = 2)) then false
  else bif decide (s.phase = 0) then decide ((s.reps.length : Int) = 0)
  else bif decide (s.phase = 1) || decide (s.phase = 2) then
    !decide (s.rank = 0) && decide (0 < (s.prop.length : Int)) && decide (0 ≤ ofB s.reps s.self) && (decide ((s.reps.length : Int) < majB s.view.mem.length) || decide (s.phase = 2))
  else false
structure SmA (s : Agr) : Prop where
  mem : s.view.mem.length ≤ 1000
  acut : s.acc.cut.length ≤ 1000
  prop : s.prop.length ≤ 1000
  box : s.box.length ≤ 1000
  boxc : ∀ b ∈ s.box, b.cut.length ≤ 1000
  reps : s.reps.length ≤ 1000
  repc : ∀ b ∈ s.reps, b.cut.length ≤ 1000
  cho : s.cho.length ≤ 1000
  accs : s.accs.length ≤ 1000
  accc : ∀ b ∈ s.accs, b.cut.length ≤ 1000
  dec : s.dec.length ≤ 1000
theorem mx {n : Nat} (h : n ≤ 1000) : n ≤ maxLen := by simp only [maxLen]; omega
theorem c_agreement_validPhase (s : Agr) (hs : SmA s) : Ret Try.prog 44 [.agg (agrE s)] (.v (.bool (phaseB s))) := by
  refine ret_of_body (fn := Try.f44) (c := Try.f44.body.getD .skip) hm hT (by kernel_rfl) Try.func44 (by kernel_rfl) (by kernel_rfl) (by kernel_rfl) (by kernel_rfl) ?_
  repeat' ((conv => whnf); first | refine And.intro (fun h => h) ?_ | refine dcond_t (by assumption) ?_ | refine dcond_f (by assumption) ?_ | (refine dcond_intro ?_ ?_ <;> intro h) | exact .refl | refine And.intro (by kernel_rfl) ?_ | refine And.intro ⟨fun h => h, fun h => h⟩ ?_ | refine .inl ⟨_, _, DleAll_refl _, c_agreement_proper _ (mx hs.mem) _, ?_⟩ | refine ⟨_, _, DleAll_refl _, fun _ => c_agreement_proper _ (mx hs.mem) _, ?_⟩ | refine ⟨_, _, DleAll_refl _, c_agreement_proper _ (mx hs.mem) _, ?_⟩ | refine .inl ⟨_, _, DleAll_refl _, c_paxos_Owner _, ?_⟩ | refine ⟨_, _, DleAll_refl _, fun _ => c_paxos_Owner _, ?_⟩ | refine ⟨_, _, DleAll_refl _, c_paxos_Owner _, ?_⟩ | refine .inl ⟨_, _, DleAll_refl _, c_view_Majority _, ?_⟩ | refine ⟨_, _, DleAll_refl _, fun _ => c_view_Majority _, ?_⟩ | refine ⟨_, _, DleAll_refl _, c_view_Majority _, ?_⟩ | refine .inl ⟨_, _, DleAll_refl _, c_agreement_reportOf _ (mx hs.reps) _, ?_⟩ | refine ⟨_, _, DleAll_refl _, fun _ => c_agreement_reportOf _ (mx hs.reps) _, ?_⟩ | refine ⟨_, _, DleAll_refl _, c_agreement_reportOf _ (mx hs.reps) _, ?_⟩ | refine Exists.intro false ?_ | (refine And.intro ?_ ?_; focus (simp; done)) | fail)
  all_goals (conv => whnf)
  all_goals (refine dle_bool ?_)
  all_goals (try simp only [List.length_map] at *)
  all_goals (simp only [phaseB, *, cond_true, cond_false, Bool.true_or, Bool.or_true, Bool.false_or, Bool.or_false, Bool.or_self])
  all_goals (generalize decide (0 < (s.cho.length : Int)) = q at *)
  all_goals (cases q <;> simp_all)
def agrB (s : Agr) : Bool :=
  bif !viewB s.view || !inB s.view.mem s.self || decide (s.wait < 0) || decide (1099511627776 < s.wait) then false
  else bif !accB s.acc || !decide (s.acc.pro = 0) && !properB s.view s.acc.pro || decide (0 < s.acc.rank) && !properB s.view s.acc.rank || !goodB s.view s.acc.cut then false
  else bif !goodB s.view s.prop || !goodB s.view s.cho || !goodB s.view s.dec || !boxB s.view s.box then false
  else bif (cutOf s.box s.self).2 && !sameI (cutOf s.box s.self).1 s.prop then false
  else allB (leP 1 s.accs) s.accs.length && (prB s.view s.reps && prB s.view s.accs && phaseB s)
theorem c_agreement_Valid (s : Agr) (hs : SmA s) : Ret Try.prog 12 [.agg (agrE s)] (.v (.bool (agrB s))) := by
  have hvm := mx hs.mem
  have hcut : (cutOf s.box s.self).1.length ≤ maxLen := by
    unfold cutOf
    cases decide (0 ≤ ofBal s.box s.self)
    · exact Nat.zero_le _
    · rcases Nat.lt_or_ge (ofBal s.box s.self).toNat s.box.length with h | h
      · simp only [cond_true, List.getD_eq_getElem?_getD, List.getElem?_eq_getElem h, Option.getD_some]
        exact mx (hs.boxc _ (List.getElem_mem h))
      · simp only [cond_true, List.getD_eq_getElem?_getD, List.getElem?_eq_none h, Option.getD_none]
        exact Nat.zero_le _
  have e1 := c_agreement_ballotOf s.box (mx hs.box) s.self
  have e2 := c_fastvote_Same (cutOf s.box s.self).1 s.prop hcut
  have e3 := c_fastvote_Valid s.view (by have := hs.mem; omega) s.box (mx hs.box) (fun b hb => by have := hs.boxc b hb; omega)
  have e4 := c_agreement_properReports s.view (by have := hs.mem; omega) s.reps (mx hs.reps) (fun b hb => by have := hs.repc b hb; omega)
  have e5 := c_agreement_properReports s.view (by have := hs.mem; omega) s.accs (mx hs.accs) (fun b hb => by have := hs.accc b hb; omega)
  have e6 := c_agreement_validPhase s hs
  have o1 := c_agreement_optional s.view (by have := hs.mem; omega) s.acc.cut (by have := hs.acut; omega)
  have o2 := c_agreement_optional s.view (by have := hs.mem; omega) s.prop (by have := hs.prop; omega)
  have o3 := c_agreement_optional s.view (by have := hs.mem; omega) s.cho (by have := hs.cho; omega)
  have o4 := c_agreement_optional s.view (by have := hs.mem; omega) s.dec (by have := hs.dec; omega)
  have pv := c_paxos_Valid s.acc (mx hs.acut)
  have hal : s.accs.length ≤ 1000 := hs.accs
  unfold agrB
  generalize cutOf s.box s.self = C at *
  generalize boxB s.view s.box = B1 at *
  generalize prB s.view s.reps = B2 at *
  generalize prB s.view s.accs = B3 at *
  generalize phaseB s = B4 at *
  generalize accB s.acc = B5 at *
  generalize goodB s.view s.acc.cut = B6 at *
  refine ret_of_body (fn := Try.f12) (c := Try.f12.body.getD .skip) hm hT (by kernel_rfl) Try.func12 (by kernel_rfl) (by kernel_rfl) (by kernel_rfl) (by kernel_rfl) ?_
  repeat' ((conv => whnf); first | refine And.intro (fun h => h) ?_ | refine dcond_t (by assumption) ?_ | refine dcond_f (by assumption) ?_ | (refine dcond_intro ?_ ?_ <;> intro h) | exact .refl | refine And.intro (by kernel_rfl) ?_ | refine And.intro ⟨fun h => h, fun h => h⟩ ?_ | refine .inl ⟨_, _, DleAll_refl _, c_view_Valid _ hvm, ?_⟩ | refine ⟨_, _, DleAll_refl _, fun _ => c_view_Valid _ hvm, ?_⟩ | refine ⟨_, _, DleAll_refl _, c_view_Valid _ hvm, ?_⟩ | refine .inl ⟨_, _, DleAll_refl _, c_view_Contains _ hvm _, ?_⟩ | refine ⟨_, _, DleAll_refl _, fun _ => c_view_Contains _ hvm _, ?_⟩ | refine ⟨_, _, DleAll_refl _, c_view_Contains _ hvm _, ?_⟩ | refine .inl ⟨_, _, DleAll_refl _, pv, ?_⟩ | refine ⟨_, _, DleAll_refl _, fun _ => pv, ?_⟩ | refine ⟨_, _, DleAll_refl _, pv, ?_⟩ | refine .inl ⟨_, _, DleAll_refl _, c_agreement_proper _ hvm _, ?_⟩ | refine ⟨_, _, DleAll_refl _, fun _ => c_agreement_proper _ hvm _, ?_⟩ | refine ⟨_, _, DleAll_refl _, c_agreement_proper _ hvm _, ?_⟩ | refine .inl ⟨_, _, DleAll_refl _, o1, ?_⟩ | refine ⟨_, _, DleAll_refl _, fun _ => o1, ?_⟩ | refine ⟨_, _, DleAll_refl _, o1, ?_⟩ | refine .inl ⟨_, _, DleAll_refl _, o2, ?_⟩ | refine ⟨_, _, DleAll_refl _, fun _ => o2, ?_⟩ | refine ⟨_, _, DleAll_refl _, o2, ?_⟩ | refine .inl ⟨_, _, DleAll_refl _, o3, ?_⟩ | refine ⟨_, _, DleAll_refl _, fun _ => o3, ?_⟩ | refine ⟨_, _, DleAll_refl _, o3, ?_⟩ | refine .inl ⟨_, _, DleAll_refl _, o4, ?_⟩ | refine ⟨_, _, DleAll_refl _, fun _ => o4, ?_⟩ | refine ⟨_, _, DleAll_refl _, o4, ?_⟩ | refine .inl ⟨_, _, DleAll_refl _, e3, ?_⟩ | refine ⟨_, _, DleAll_refl _, fun _ => e3, ?_⟩ | refine ⟨_, _, DleAll_refl _, e3, ?_⟩ | refine .inl ⟨_, _, DleAll_refl _, e1, ?_⟩ | refine ⟨_, _, DleAll_refl _, fun _ => e1, ?_⟩ | refine ⟨_, _, DleAll_refl _, e1, ?_⟩ | refine .inl ⟨_, _, DleAll_refl _, e2, ?_⟩ | refine ⟨_, _, DleAll_refl _, fun _ => e2, ?_⟩ | refine ⟨_, _, DleAll_refl _, e2, ?_⟩ | refine Exists.intro false ?_ | (refine And.intro ?_ ?_; focus (simp; done)) | fail)
  all_goals (conv => whnf)
  · refine dle_bool ?_
    simp only [h, cond_true]
  · rename_i h1
    refine dle_bool ?_
    simp only [h1, h, cond_true, cond_false]
  · rename_i h1 h2
    refine dle_bool ?_
    simp only [h1, h2, h, cond_true, cond_false]
  · rename_i h1 h2 h3
    refine dle_bool ?_
    simp only [h1, h2, h3, h, cond_true, cond_false]
  · rename_i h1 h2 h3
    simp only [h1, h2, h3, h, cond_false]
    clear h1 h2 h3 h
    refine ⟨Nat, fun i => ⟨[(1, .lp 0 0), (3, .lp 1 0), (111, .lst 3 (s.accs.map rptE) false), (112, i64 s.accs.length), (113, i64 i)], [.cells 30 (agrE s), .cells 24 (viewE s.view)]⟩, fun i => i ≤ s.accs.length ∧ ∀ j, j < i → leP 1 s.accs j = true, fun i => s.accs.length - i, [], ⟨0, ⟨Nat.zero_le _, by omega⟩, ?_⟩, ?_⟩
    · conv => whnf
      exact ⟨⟨.refl, .refl, .refl, dle_int (by simp), .refl, trivial⟩, ⟨.refl, .refl, trivial⟩, by rfl⟩
    · intro i ⟨hi, hall⟩
      conv => whnf
      refine dcond_intro ?_ ?_ <;> intro h
      · have hlt : i < s.accs.length := by simpa using h
        clear h
        have hg : s.accs.getD i rpt0 = s.accs[i] := by simp [hlt]
        repeat' ((conv => whnf); first | refine And.intro (fun h => h) ?_ | refine dcond_t (by assumption) ?_ | refine dcond_f (by assumption) ?_ | (refine dcond_intro ?_ ?_ <;> intro h) | exact .refl | refine And.intro (by kernel_rfl) ?_ | refine And.intro ⟨fun h => h, fun h => h⟩ ?_ | refine ⟨_, _, And.intro ⟨rfl, get_map hlt⟩ ?_⟩ | refine Exists.intro false ?_ | (refine And.intro ?_ ?_; focus (simp; done)) | fail)
        all_goals (conv => whnf)
        · refine dle_bool ?_
          rw [allB_false hlt (by rw [leP, hg, h]; rfl), Bool.false_and]
        · refine ⟨i + 1, ⟨hlt, fun j hj => ?_⟩, by simp only []; omega, ?_⟩
          · rcases Nat.lt_succ_iff_lt_or_eq.1 hj with hj | rfl
            · exact hall j hj
            · rw [leP, hg, h]; rfl
          · conv => whnf
            exact ⟨⟨.refl, .refl, .refl, .refl, dle_int (wrap_succ (by omega)), trivial⟩, ⟨.refl, .refl, trivial⟩, by rfl⟩
      · have hge : ¬ i < s.accs.length := by simpa using h
        clear h
        rw [allB_true.2 (fun j hj => hall j (by omega)), Bool.true_and]
        repeat' ((conv => whnf); first | refine And.intro (fun h => h) ?_ | refine dcond_t (by assumption) ?_ | refine dcond_f (by assumption) ?_ | (refine dcond_intro ?_ ?_ <;> intro h) | exact .refl | refine And.intro (by kernel_rfl) ?_ | refine And.intro ⟨fun h => h, fun h => h⟩ ?_ | refine .inl ⟨_, _, DleAll_refl _, e4, ?_⟩ | refine ⟨_, _, DleAll_refl _, fun _ => e4, ?_⟩ | refine ⟨_, _, DleAll_refl _, e4, ?_⟩ | refine .inl ⟨_, _, DleAll_refl _, e5, ?_⟩ | refine ⟨_, _, DleAll_refl _, fun _ => e5, ?_⟩ | refine ⟨_, _, DleAll_refl _, e5, ?_⟩ | refine .inl ⟨_, _, DleAll_refl _, e6, ?_⟩ | refine ⟨_, _, DleAll_refl _, fun _ => e6, ?_⟩ | refine ⟨_, _, DleAll_refl _, e6, ?_⟩ | refine Exists.intro false ?_ | (refine And.intro ?_ ?_; focus (simp; done)) | fail)
end Go.Proofs.Ytmbniilpgbjcfaa

set_option maxRecDepth 100000
namespace Go.Proofs.Ytmbniilpgbjcfaa
open Go.Lift
def z3 : List DV := [i64 0, i64 0, .nl]
def z2 : List DV := [i64 0, .nl]
theorem fill_set {α : Type} {f : α → List DV} {z : List DV} {l : List α} {i : Nat} (h : i < l.length) : ((l.take i).map f ++ List.replicate (l.length - i) z).set i (f l[i]) = (l.take (i + 1)).map f ++ List.replicate (l.length - (i + 1)) z := by
  have hl : ((l.take i).map f).length = i := by simp; omega
  rw [List.set_append_right _ _ (by omega), hl, Nat.sub_self]
  obtain ⟨m, hm⟩ : ∃ m, l.length - i = m + 1 := ⟨l.length - i - 1, by omega⟩
  rw [hm, List.replicate_succ, List.set_cons_zero, List.take_succ_eq_append_getElem h, List.map_append, show l.length - (i + 1) = m by omega]
  simp
theorem fill_len {α : Type} {f : α → List DV} {z : List DV} {l : List α} {i : Nat} (h : i ≤ l.length) : ((l.take i).map f ++ List.replicate (l.length - i) z).length = l.length := by
  simp; omega
theorem fill_get {α : Type} {f : α → List DV} {z : List DV} {l : List α} {i : Nat} (h : i < l.length) : ((l.take i).map f ++ List.replicate (l.length - i) z)[i]? = some z := by
  have hl : ((l.take i).map f).length = i := by simp; omega
  rw [List.getElem?_append_right (by omega), hl, Nat.sub_self]
  obtain ⟨m, hm⟩ : ∃ m, l.length - i = m + 1 := ⟨l.length - i - 1, by omega⟩
  rw [hm]
  rfl
theorem fill_end {α : Type} {f : α → List DV} {z : List DV} {l : List α} : (l.take l.length).map f ++ List.replicate (l.length - l.length) z = l.map f := by simp
theorem byR {n : Nat} (h : n ≤ 1000000) : n * (tinfo tt 73).bytes ≤ 140737488355328 ∧ n ≤ maxLen := by
  have e : (tinfo tt 73).bytes = 40 := by kernel_rfl
  refine ⟨?_, ?_⟩
  · rw [e]; omega
  · simp only [maxLen]; omega
theorem byB {n : Nat} (h : n ≤ 1000000) : n * (tinfo tt 88).bytes ≤ 140737488355328 ∧ n ≤ maxLen := by
  have e : (tinfo tt 88).bytes = 32 := by kernel_rfl
  refine ⟨?_, ?_⟩
  · rw [e]; omega
  · simp only [maxLen]; omega
theorem c_agreement_cloneReports (l : List Rpt) (hl : l.length ≤ 1000000) (hc : ∀ r ∈ l, r.cut.length ≤ 1000000) : Ret Try.prog 84 [.lst 3 (l.map rptE) false] (.lst 3 (l.map rptE) false) := by
  have hby := byR (n := (l.map rptE).length) (by simp; omega)
  refine ret_of_body (fn := Try.f84) (c := Try.f84.body.getD .skip) hm hT (by kernel_rfl) Try.func84 (by kernel_rfl) (by kernel_rfl) (by kernel_rfl) (by kernel_rfl) ?_
  repeat' ((conv => whnf); first | refine And.intro (fun h => h) ?_ | refine dcond_t (by assumption) ?_ | refine dcond_f (by assumption) ?_ | (refine dcond_intro ?_ ?_ <;> intro h) | exact .refl | refine And.intro (by kernel_rfl) ?_ | refine And.intro ⟨fun h => h, fun h => h⟩ ?_ | refine ⟨(l.map rptE).length, (l.map rptE).length, rfl, rfl, Nat.le_refl _, hby.1, hby.2, ?_⟩ | refine Exists.intro false ?_ | (refine And.intro ?_ ?_; focus (simp; done)) | fail)
  all_goals (conv => whnf)
  refine ⟨Nat, fun i => ⟨[(3, .own 0), (9, .lst 3 (l.map rptE) false), (10, i64 l.length), (11, i64 i)], [.row 73 3 ((l.take i).map rptE ++ List.replicate (l.length - i) z3)]⟩, fun i => i ≤ l.length, fun i => l.length - i, [], ⟨0, Nat.zero_le _, ?_⟩, ?_⟩
  · conv => whnf
    refine ⟨⟨.refl, .refl, dle_int (by simp), .refl, trivial⟩, ⟨ole_row ?_, trivial⟩, by rfl⟩
    rw [List.length_map]
    rfl
  · intro i hi
    conv => whnf
    refine dcond_intro ?_ ?_ <;> intro h
    · have hlt : i < l.length := by simpa using h
      clear h
      have hlen := fill_len (f := rptE) (z := z3) (l := l) (i := i) hi
      have hl0 : i < ((l.take i).map rptE ++ List.replicate (l.length - i) z3).length := by omega
      have hget := fill_get (f := rptE) (z := z3) hlt
      have hset := fill_set (f := rptE) (z := z3) hlt
      repeat' ((conv => whnf); first | refine And.intro (fun h => h) ?_ | refine dcond_t (by assumption) ?_ | refine dcond_f (by assumption) ?_ | (refine dcond_intro ?_ ?_ <;> intro h) | exact .refl | refine And.intro (by kernel_rfl) ?_ | refine And.intro ⟨fun h => h, fun h => h⟩ ?_ | refine ⟨_, _, And.intro ⟨rfl, get_map hlt⟩ ?_⟩ | refine .inl ⟨_, _, DleAll_refl _, c_agreement_clone _ (hc _ (List.getElem_mem hlt)), ?_⟩ | refine ⟨_, _, DleAll_refl _, fun _ => c_agreement_clone _ (hc _ (List.getElem_mem hlt)), ?_⟩ | refine ⟨_, _, DleAll_refl _, c_agreement_clone _ (hc _ (List.getElem_mem hlt)), ?_⟩ | refine ⟨i, And.intro ⟨rfl, hl0⟩ ?_⟩ | refine ⟨z3, And.intro hget ?_⟩ | refine ⟨z3, hget, ?_⟩ | refine Exists.intro false ?_ | (refine And.intro ?_ ?_; focus (simp; done)) | fail)
      all_goals (conv => whnf)
      refine ⟨i + 1, hlt, by simp only []; omega, ?_⟩
      conv => whnf
      refine ⟨⟨.refl, .refl, .refl, dle_int (wrap_succ (by omega)), trivial⟩, ⟨ole_row ?_, trivial⟩, by rfl⟩
      rw [← hset]
      rfl
    · have hge : ¬ i < l.length := by simpa using h
      have : i = l.length := by omega
      subst this
      clear h
      rw [fill_end]
      repeat' ((conv => whnf); first | refine And.intro (fun h => h) ?_ | refine dcond_t (by assumption) ?_ | refine dcond_f (by assumption) ?_ | (refine dcond_intro ?_ ?_ <;> intro h) | exact .refl | refine And.intro (by kernel_rfl) ?_ | refine And.intro ⟨fun h => h, fun h => h⟩ ?_ | refine Exists.intro false ?_ | (refine And.intro ?_ ?_; focus (simp; done)) | fail)
end Go.Proofs.Ytmbniilpgbjcfaa

set_option maxRecDepth 100000
namespace Go.Proofs.Ytmbniilpgbjcfaa
open Go.Lift
theorem m_cloneReports (l : List Rpt) (hl : l.length ≤ 1000000) (hc : ∀ r ∈ l, r.cut.length ≤ 1000000) : RetM Try.prog 84 [] [.lst 3 (l.map rptE) false] [] [.row 73 3 (l.map rptE)] (.own 0) := by
  have hby := byR (n := (l.map rptE).length) (by simp; omega)
  refine retM_of_body (fn := Try.f84) (c := Try.f84.body.getD .skip) hm hT (by kernel_rfl) Try.func84 (by kernel_rfl) (by kernel_rfl) (by kernel_rfl) (by kernel_rfl) (by kernel_rfl) ?_
  repeat' ((conv => whnf); first | refine And.intro (fun h => h) ?_ | refine dcond_t (by assumption) ?_ | refine dcond_f (by assumption) ?_ | (refine dcond_intro ?_ ?_ <;> intro h) | exact .refl | refine And.intro (by kernel_rfl) ?_ | refine And.intro ⟨fun h => h, fun h => h⟩ ?_ | refine ⟨(l.map rptE).length, (l.map rptE).length, rfl, rfl, Nat.le_refl _, hby.1, hby.2, ?_⟩ | refine Exists.intro false ?_ | (refine And.intro ?_ ?_; focus (simp; done)) | fail)
  all_goals (conv => whnf)
  refine ⟨Nat, fun i => ⟨[(3, .own 0), (9, .lst 3 (l.map rptE) false), (10, i64 l.length), (11, i64 i)], [.row 73 3 ((l.take i).map rptE ++ List.replicate (l.length - i) z3)]⟩, fun i => i ≤ l.length, fun i => l.length - i, [], ⟨0, Nat.zero_le _, ?_⟩, ?_⟩
  · conv => whnf
    refine ⟨⟨.refl, .refl, dle_int (by simp), .refl, trivial⟩, ⟨ole_row ?_, trivial⟩, by rfl⟩
    rw [List.length_map]
    rfl
  · intro i hi
    conv => whnf
    refine dcond_intro ?_ ?_ <;> intro h
    · have hlt : i < l.length := by simpa using h
      clear h
      have hlen := fill_len (f := rptE) (z := z3) (l := l) (i := i) hi
      have hl0 : i < ((l.take i).map rptE ++ List.replicate (l.length - i) z3).length := by omega
      have hget := fill_get (f := rptE) (z := z3) hlt
      have hset := fill_set (f := rptE) (z := z3) hlt
      repeat' ((conv => whnf); first | refine And.intro (fun h => h) ?_ | refine dcond_t (by assumption) ?_ | refine dcond_f (by assumption) ?_ | (refine dcond_intro ?_ ?_ <;> intro h) | exact .refl | refine And.intro (by kernel_rfl) ?_ | refine And.intro ⟨fun h => h, fun h => h⟩ ?_ | refine ⟨_, _, And.intro ⟨rfl, get_map hlt⟩ ?_⟩ | refine .inl ⟨_, _, DleAll_refl _, c_agreement_clone _ (hc _ (List.getElem_mem hlt)), ?_⟩ | refine ⟨_, _, DleAll_refl _, fun _ => c_agreement_clone _ (hc _ (List.getElem_mem hlt)), ?_⟩ | refine ⟨_, _, DleAll_refl _, c_agreement_clone _ (hc _ (List.getElem_mem hlt)), ?_⟩ | refine ⟨i, And.intro ⟨rfl, hl0⟩ ?_⟩ | refine ⟨z3, And.intro hget ?_⟩ | refine ⟨z3, hget, ?_⟩ | refine Exists.intro false ?_ | (refine And.intro ?_ ?_; focus (simp; done)) | fail)
      all_goals (conv => whnf)
      refine ⟨i + 1, hlt, by simp only []; omega, ?_⟩
      conv => whnf
      refine ⟨⟨.refl, .refl, .refl, dle_int (wrap_succ (by omega)), trivial⟩, ⟨ole_row ?_, trivial⟩, by rfl⟩
      rw [← hset]
      rfl
    · have hge : ¬ i < l.length := by simpa using h
      have : i = l.length := by omega
      subst this
      clear h
      rw [fill_end]
      repeat' ((conv => whnf); first | refine And.intro (fun h => h) ?_ | refine dcond_t (by assumption) ?_ | refine dcond_f (by assumption) ?_ | (refine dcond_intro ?_ ?_ <;> intro h) | exact .refl | refine And.intro (by kernel_rfl) ?_ | refine And.intro ⟨fun h => h, fun h => h⟩ ?_ | refine Exists.intro false ?_ | (refine And.intro ?_ ?_; focus (simp; done)) | fail)
      all_goals (conv => whnf)
      exact ⟨.refl, ⟨.refl, trivial⟩, by rfl⟩
end Go.Proofs.Ytmbniilpgbjcfaa

set_option maxRecDepth 100000
namespace Go.Proofs.Ytmbniilpgbjcfaa
open Go.Lift
set_option maxRecDepth 100000 in
set_option maxHeartbeats 2000000 in
theorem m_AddReport (v : View) (hv : v.mem.length ≤ 400000) (l : List Rpt) (hl : l.length ≤ 400000) (hc : ∀ r ∈ l, r.cut.length ≤ 400000) (r : Rpt) (hr : r.cut.length ≤ 400000) (hok : repsB v l = true) :
    RetM Try.prog 93 [] [.agg (viewE v), .lst 3 (l.map rptE) false, .agg (rptE r)] [] [.row 73 3 ((addR v l r).1.map rptE)] (.tup [.own 0, .v (.bool (addR v l r).2)]) := by
  have hlm : l.length ≤ maxLen := Nat.le_trans hl (by decide)
  have e33 := c_paxos_ValidReports v (Nat.le_trans hv (by omega)) l hlm (fun x hx => Nat.le_trans (hc x hx) (by omega))
  have hil := insR_len l r
  have e33b := c_paxos_ValidReports v (Nat.le_trans hv (by omega)) (insR l r) (by simp only [maxLen]; omega) (fun x hx => by
    rcases insR_mem hx with rfl | hx
    · omega
    · exact Nat.le_trans (hc x hx) (by omega))
  have e51 := m51 l (by omega) (fun x hx => Nat.le_trans (hc x hx) (by omega))
  have e51b := m51 (insR l r) (by omega) (fun x hx => by
    rcases insR_mem hx with rfl | hx
    · omega
    · exact Nat.le_trans (hc x hx) (by omega))
  obtain ⟨R, hR⟩ : ∃ R, R = addR v l r := ⟨_, rfl⟩
  rw [← hR]
  refine retM_of_bodyA (fn := Try.f93) (c := Try.f93.body.getD .skip) hm hT (by kernel_rfl) Try.func93 (by kernel_rfl) (by kernel_rfl) (by kernel_rfl) (by kernel_rfl) (by kernel_rfl) ?_
  repeat' ((conv => whnf); first | refine And.intro (fun h => h) ?_ | refine dcond_t (by assumption) ?_ | refine dcond_f (by assumption) ?_ | (refine dcond_intro ?_ ?_ <;> intro h) | exact .refl | refine And.intro (by kernel_rfl) ?_ | refine And.intro ⟨fun h => h, fun h => h⟩ ?_ | refine .inl ⟨_, _, DleAll_refl _, e33, ?_⟩ | refine ⟨_, _, DleAll_refl _, fun _ => e33, ?_⟩ | refine ⟨_, _, DleAll_refl _, e33, ?_⟩ | refine Exists.intro false ?_ | (refine And.intro ?_ ?_; focus (simp; done)) | fail)
  all_goals (conv => whnf)
  · rw [hok] at h
    cases h
  · have h0 := h
    clear h
    refine ⟨Nat, fun i => ⟨[(1, .lst 3 (l.map rptE) false), (3, .lp 0 0), (5, .lp 1 0), (8, i64 i)], [.cells 24 (viewE v), .cells 73 (rptE r)]⟩, fun i => i ≤ l.length ∧ ∀ j, (hj : j < l.length) → j < i → l[j].mem < r.mem, fun i => l.length - i, [], ⟨0, ⟨Nat.zero_le _, fun j _ hj => by omega⟩, ?_⟩, ?_⟩
    · exact ⟨by repeat' ((conv => whnf); first | exact trivial | refine And.intro (by (conv => arg 1; whnf); first | (with_reducible exact .refl) | exact dle_int (wrap_succ (by omega)) | exact .refl) ?_), by repeat' ((conv => whnf); first | exact trivial | refine And.intro ?_ ?_ | exact .refl), rfl⟩
    · intro i ⟨hi, hall⟩
      have hix : ∃ x : Rpt, (i < l.length → (l.map rptE)[i]? = some (rptE x)) ∧ ∀ (hil : i < l.length), x = l[i] := by
        by_cases hil : i < l.length
        · exact ⟨l[i], fun _ => get_map hil, fun _ => rfl⟩
        · exact ⟨r, fun hn => absurd hn hil, fun hn => absurd hn hil⟩
      obtain ⟨x, hx1, hx2⟩ := hix
      repeat' ((conv => whnf); first | refine And.intro (fun h => h) ?_ | refine dcond_t (by assumption) ?_ | refine dcond_f (by assumption) ?_ | (refine dcond_intro ?_ ?_ <;> intro h) | exact .refl | refine And.intro (by kernel_rfl) ?_ | refine And.intro ⟨fun h => h, fun h => h⟩ ?_ | refine ⟨i, rptE x, And.intro ⟨⟨fun h => h, fun h => h⟩, fun hg => ⟨rfl, hx1 (by simpa using hg)⟩⟩ ?_⟩ | refine Exists.intro false ?_ | (refine And.intro ?_ ?_; focus (simp; done)) | fail)
      · have hil : i < l.length := by simpa using ((Bool.and_eq_true ..).mp h).1
        have hlt : l[i].mem < r.mem := by
          have := ((Bool.and_eq_true ..).mp h).2
          rw [hx2 hil] at this
          simpa using this
        clear h
        repeat' ((conv => whnf); first | refine And.intro (fun h => h) ?_ | refine dcond_t (by assumption) ?_ | refine dcond_f (by assumption) ?_ | (refine dcond_intro ?_ ?_ <;> intro h) | exact .refl | refine And.intro (by kernel_rfl) ?_ | refine And.intro ⟨fun h => h, fun h => h⟩ ?_ | refine Exists.intro false ?_ | (refine And.intro ?_ ?_; focus (simp; done)) | fail)
        all_goals (conv => whnf)
        refine ⟨i + 1, ⟨hil, fun j hj hji => ?_⟩, by simp only []; omega, ?_⟩
        · rcases Nat.lt_succ_iff_lt_or_eq.mp hji with h1 | rfl
          · exact hall j hj h1
          · exact hlt
        · exact ⟨⟨.refl, .refl, .refl, dle_int (wrap_succ (by omega)), trivial⟩, ⟨.refl, .refl, trivial⟩, rfl⟩
      · have hf : frontN l r.mem = i := by
          rcases Nat.lt_or_ge i l.length with hil | hil
          · refine frontN_at hil (fun j hj => hall j (by omega) hj) ?_
            intro hlt
            rw [hx2 hil] at h
            simp [hil, hlt] at h
          · have : i = l.length := by omega
            subst this
            exact frontN_all fun j hj => hall j hj hj
        clear h
        have m51i : RetM Try.prog 110 [] [DV.lst 3 (((l.map rptE).take i).drop 0) false] [] [LObj.row 73 3 ((l.take i).map rptE)] (DV.own 0) := by
          have := m51 (l.take i) (by simp; omega) (fun x hx => Nat.le_trans (hc x (List.mem_of_mem_take hx)) (by omega))
          rw [← List.map_take]
          exact this
        have hlen : (l.take i).length = i := by simp; omega
        have hlm : i ≤ (l.map rptE).length := by simpa using hi
        repeat' ((conv => whnf); first | refine And.intro (fun h => h) ?_ | refine dcond_t (by assumption) ?_ | refine dcond_f (by assumption) ?_ | (refine dcond_intro ?_ ?_ <;> intro h) | exact .refl | refine And.intro (by kernel_rfl) ?_ | refine And.intro ⟨fun h => h, fun h => h⟩ ?_ | refine ⟨0, i, And.intro ⟨rfl, ⟨_, rfl⟩, Nat.zero_le _, hlm⟩ ?_⟩ | refine .inr ⟨[], [], _, [], _, _, m51i, by rfl, trivial, ⟨.refl, trivial⟩, ?_⟩ | refine And.intro (fitsR (by simp <;> omega)) ?_ | refine ⟨i, And.intro ⟨⟨_, rfl⟩, hlm⟩ ?_⟩ | refine Exists.intro false ?_ | (refine And.intro ?_ ?_; focus (simp; done)) | fail)
        have hins : List.map rptE (List.take i l) ++ (List.replicate 1 (tinfo tt 73).zero).set 0 (dcells (.agg [.v (.int .i64 r.mem), .v (.int .i64 r.rank), .lst 1 (List.map intE r.cut) false])) ++ List.drop i (List.map rptE l) = (insR l r).map rptE := by
          simp [insR, hf, rptE, dcells]
        refine .inl ⟨[.agg (viewE v), .lst 3 ((insR l r).map rptE) false], _, ⟨.refl, dle_lst hins, trivial⟩, e33b, ?_⟩
        repeat' ((conv => whnf); first | refine And.intro (fun h => h) ?_ | refine dcond_t (by assumption) ?_ | refine dcond_f (by assumption) ?_ | (refine dcond_intro ?_ ?_ <;> intro h) | exact .refl | refine And.intro (by kernel_rfl) ?_ | refine And.intro ⟨fun h => h, fun h => h⟩ ?_ | refine .inr ⟨[], [], _, [], _, _, e51, by rfl, trivial, ⟨.refl, trivial⟩, ?_⟩ | refine .inr ⟨[], [], _, [], _, _, e51b, by rfl, trivial, ⟨dle_lst hins, trivial⟩, ?_⟩ | refine Exists.intro false ?_ | (refine And.intro ?_ ?_; focus (simp; done)) | fail)
        all_goals (conv => whnf)
        · have hR2 : R = (l, false) := by
            rw [hR]
            simp only [addR, h0, h, cond_true, cond_false]
          clear hR
          subst hR2
          refine ⟨[.xchg 0 6], ?_⟩
          conv => whnf
          exact ⟨.refl, ⟨.refl, trivial⟩, by rfl⟩
        · have hR2 : R = (insR l r, true) := by
            rw [hR]
            simp only [addR, h0, h, cond_true, cond_false]
          clear hR
          subst hR2
          refine ⟨[.xchg 0 6], ?_⟩
          conv => whnf
          exact ⟨.refl, ⟨.refl, trivial⟩, by rfl⟩
end Go.Proofs.Ytmbniilpgbjcfaa

set_option maxRecDepth 100000
namespace Go.Proofs.Ytmbniilpgbjcfaa
open Go.Lift
def agrO (s : Agr) (k : Nat) : List DV := [i64 s.self, i64 s.view.num, .lst 1 (s.view.mem.map intE) false, i64 s.acc.pro, i64 s.acc.rank, .lst 1 (s.acc.cut.map intE) false, .lst 1 (s.prop.map intE) false, .lst 2 (s.box.map balE) false, i64 s.rank, i64 s.phase, .lst 3 (s.reps.map rptE) false, .lst 1 (s.cho.map intE) false, .own k, .lst 1 (s.dec.map intE) false, i64 s.wait]
set_option maxHeartbeats 8000000 in
theorem m_cloneState (s : Agr) (hs : SmA s) : RetM Try.prog 58 [] [.agg (agrE s)] [] [.dead, .dead, .dead, .row 73 3 (s.accs.map rptE)] (.agg (agrO s 3)) := by
  have e84 := c_agreement_cloneReports s.reps (by have := hs.reps; omega) (fun b hb => by have := hs.repc b hb; omega)
  have m84 := m_cloneReports s.accs (by have := hs.accs; omega) (fun b hb => by have := hs.accc b hb; omega)
  have b1 := hs.mem
  have b2 := hs.acut
  have b3 := hs.prop
  have b4 := hs.cho
  have b5 := hs.dec
  have b6 := hs.reps
  have b7 : ∀ b ∈ s.reps, b.cut.length ≤ 1000000 := fun b hb => by have := hs.repc b hb; omega
  have b8 := hs.accs
  have b9 : ∀ b ∈ s.accs, b.cut.length ≤ 1000000 := fun b hb => by have := hs.accc b hb; omega
  have hbl := hs.box
  have hby := byB (n := (s.box.map balE).length) (by simp; omega)
  refine retM_of_bodyA (fn := Try.f58) (c := Try.f58.body.getD .skip) hm hT (by kernel_rfl) Try.func58 (by kernel_rfl) (by kernel_rfl) (by kernel_rfl) (by kernel_rfl) (by kernel_rfl) ?_
  repeat' ((conv => whnf); first | refine And.intro (fun h => h) ?_ | refine dcond_t (by assumption) ?_ | refine dcond_f (by assumption) ?_ | (refine dcond_intro ?_ ?_ <;> intro h) | exact .refl | refine And.intro (by kernel_rfl) ?_ | refine And.intro ⟨fun h => h, fun h => h⟩ ?_ | refine .inl ⟨_, _, DleAll_refl _, c_agreement_clone _ (by omega), ?_⟩ | refine ⟨_, _, DleAll_refl _, fun _ => c_agreement_clone _ (by omega), ?_⟩ | refine ⟨_, _, DleAll_refl _, c_agreement_clone _ (by omega), ?_⟩ | refine .inl ⟨_, _, DleAll_refl _, e84, ?_⟩ | refine .inr ⟨[], [], _, [], _, _, m84, by rfl, trivial, ⟨.refl, trivial⟩, ?_⟩ | refine ⟨(s.box.map balE).length, (s.box.map balE).length, rfl, rfl, Nat.le_refl _, hby.1, hby.2, ?_⟩ | refine Exists.intro false ?_ | (refine And.intro ?_ ?_; focus (simp; done)) | fail)
  all_goals (conv => whnf)
  refine ⟨Nat, fun i => ⟨[(2, .lp 1 0), (3, .lp 4 0), (54, .lst 2 (s.box.map balE) false), (55, i64 s.box.length), (56, i64 i)], [.cells 30 (agrE s), .cells 30 (tinfo tt 30).zero, .row 88 2 ((s.box.take i).map balE ++ List.replicate (s.box.length - i) z2), .row 73 3 (s.accs.map rptE), .cells 30 [i64 s.self, i64 s.view.num, .lst 1 (s.view.mem.map intE) false, i64 s.acc.pro, i64 s.acc.rank, .lst 1 (s.acc.cut.map intE) false, .lst 1 (s.prop.map intE) false, .own 2, i64 s.rank, i64 s.phase, .lst 3 (s.reps.map rptE) false, .lst 1 (s.cho.map intE) false, .own 3, .lst 1 (s.dec.map intE) false, i64 s.wait]]⟩, fun i => i ≤ s.box.length, fun i => s.box.length - i, [], ⟨0, Nat.zero_le _, ?_⟩, ?_⟩
  · conv => whnf
    refine ⟨⟨.refl, .refl, .refl, dle_int (by simp), .refl, trivial⟩, ⟨.refl, .refl, ole_row ?_, .refl, .refl, trivial⟩, by rfl⟩
    rw [List.length_map]
    rfl
  · intro i hi
    conv => whnf
    refine dcond_intro ?_ ?_ <;> intro h
    · have hlt : i < s.box.length := by simpa using h
      clear h
      have hlen := fill_len (f := balE) (z := z2) (l := s.box) (i := i) hi
      have hl0 : i < ((s.box.take i).map balE ++ List.replicate (s.box.length - i) z2).length := by omega
      have hget := fill_get (f := balE) (z := z2) hlt
      have hset := fill_set (f := balE) (z := z2) hlt
      have hbc := hs.boxc _ (List.getElem_mem hlt)
      repeat' ((conv => whnf); first | refine And.intro (fun h => h) ?_ | refine dcond_t (by assumption) ?_ | refine dcond_f (by assumption) ?_ | (refine dcond_intro ?_ ?_ <;> intro h) | exact .refl | refine And.intro (by kernel_rfl) ?_ | refine And.intro ⟨fun h => h, fun h => h⟩ ?_ | refine ⟨_, _, And.intro ⟨rfl, get_map hlt⟩ ?_⟩ | refine .inl ⟨_, _, DleAll_refl _, c_agreement_clone _ (by omega), ?_⟩ | refine ⟨_, _, DleAll_refl _, fun _ => c_agreement_clone _ (by omega), ?_⟩ | refine ⟨_, _, DleAll_refl _, c_agreement_clone _ (by omega), ?_⟩ | refine ⟨i, And.intro ⟨rfl, hl0⟩ ?_⟩ | refine ⟨z2, And.intro hget ?_⟩ | refine ⟨z2, hget, ?_⟩ | refine Exists.intro false ?_ | (refine And.intro ?_ ?_; focus (simp; done)) | fail)
      all_goals (conv => whnf)
      refine ⟨i + 1, hlt, by simp only []; omega, ?_⟩
      conv => whnf
      refine ⟨⟨.refl, .refl, .refl, .refl, dle_int (wrap_succ (by omega)), trivial⟩, ⟨.refl, .refl, ole_row ?_, .refl, .refl, trivial⟩, by rfl⟩
      rw [← hset]
      rfl
    · have hge : ¬ i < s.box.length := by simpa using h
      have : i = s.box.length := by omega
      subst this
      clear h
      rw [fill_end]
      repeat' ((conv => whnf); first | refine And.intro (fun h => h) ?_ | refine dcond_t (by assumption) ?_ | refine dcond_f (by assumption) ?_ | (refine dcond_intro ?_ ?_ <;> intro h) | exact .refl | refine And.intro (by kernel_rfl) ?_ | refine And.intro ⟨fun h => h, fun h => h⟩ ?_ | refine Exists.intro false ?_ | (refine And.intro ?_ ?_; focus (simp; done)) | fail)
      all_goals (conv => whnf)
      refine ⟨[.shutc 1 7], ?_⟩
      conv => whnf
      exact ⟨.refl, ⟨.dead, .dead, .dead, .refl, trivial⟩, by rfl⟩
end Go.Proofs.Ytmbniilpgbjcfaa

set_option maxRecDepth 100000
namespace Go.Proofs.Ytmbniilpgbjcfaa
open Go.Lift
theorem c_majority (s : Agr) (p : DV) : Ret Try.prog 109 [.ip (agrE s ++ [p])] (i64 (majB s.view.mem.length)) := by
  have e : Ret Try.prog 77 [i64 ((s.view.mem.map intE).length : Int)] (i64 (majB s.view.mem.length)) := by
    rw [List.length_map]
    exact c_view_Majority _
  refine ret_of_body (fn := Try.f109) (c := Try.f109.body.getD .skip) hm hT (by kernel_rfl) Try.func109 (by kernel_rfl) (by kernel_rfl) (by kernel_rfl) (by kernel_rfl) ?_
  repeat' ((conv => whnf); first | refine And.intro (fun h => h) ?_ | refine dcond_t (by assumption) ?_ | refine dcond_f (by assumption) ?_ | (refine dcond_intro ?_ ?_ <;> intro h) | exact .refl | refine And.intro (by kernel_rfl) ?_ | refine And.intro ⟨fun h => h, fun h => h⟩ ?_ | refine .inl ⟨_, _, DleAll_refl _, e, ?_⟩ | refine ⟨_, _, DleAll_refl _, fun _ => e, ?_⟩ | refine ⟨_, _, DleAll_refl _, e, ?_⟩ | refine Exists.intro false ?_ | (refine And.intro ?_ ?_; focus (simp; done)) | fail)
theorem gh2 {a d : DV} : ole (.gh [a, d]) (.gh [a, .junk]) := .gh rfl fun i x y hx hy => by
  rcases i with _ | _ | i
  · simp at hx hy
    subst hx hy
    exact .refl
  · simp at hx hy
    subst hx hy
    exact .junk
  · simp at hx
def pktOf (s : Agr) (to kind rank last : Int) (cut : List Int) : Pkt := ⟨to, ⟨kind, s.view.num, s.self, rank, last, cut⟩⟩
theorem fitsP {n : Nat} (h : n ≤ 1000000) : fitsIn tt 48 n := by
  have e : (tinfo tt 48).bytes = 72 := by kernel_rfl
  refine ⟨?_, ?_⟩
  · rw [e]; omega
  · simp only [maxLen]; omega
theorem m_send_nil (s : Agr) (to kind rank last : Int) (cut : List Int) (hc : cut.length ≤ 1000000) :
    RetM Try.prog 61 [.cells 95 (agrE s ++ [.nl])] [.lp 0 0, i64 to, i64 kind, i64 rank, i64 last, .lst 1 (cut.map intE) false] [true] [.cells 95 (agrE s ++ [.own 2]), .dead, .row 48 7 [pktE (pktOf s to kind rank last cut)]] (.tup []) := by
  refine retM_of_body (fn := Try.f61) (c := Try.f61.body.getD .skip) hm hT (by kernel_rfl) Try.func61 (by kernel_rfl) (by kernel_rfl) (by kernel_rfl) (by kernel_rfl) (by kernel_rfl) ?_
  repeat' ((conv => whnf); first | refine And.intro (fun h => h) ?_ | refine dcond_t (by assumption) ?_ | refine dcond_f (by assumption) ?_ | (refine dcond_intro ?_ ?_ <;> intro h) | exact .refl | refine And.intro (by kernel_rfl) ?_ | refine And.intro ⟨fun h => h, fun h => h⟩ ?_ | refine .inl ⟨_, _, DleAll_refl _, c_agreement_clone _ hc, ?_⟩ | refine ⟨_, _, DleAll_refl _, fun _ => c_agreement_clone _ hc, ?_⟩ | refine ⟨_, _, DleAll_refl _, c_agreement_clone _ hc, ?_⟩ | refine And.intro (fitsP (by simp <;> omega)) ?_ | refine Exists.intro false ?_ | (refine And.intro ?_ ?_; focus (simp; done)) | fail)
  all_goals (conv => whnf)
  exact ⟨.refl, ⟨.refl, .refl, .refl, trivial⟩, by rfl⟩
theorem m_send_own (s : Agr) (ps : List Pkt) (hps : ps.length ≤ 100) (to kind rank last : Int) (cut : List Int) (hc : cut.length ≤ 1000000) :
    RetM Try.prog 61 [.cells 95 (agrE s ++ [.own 1]), .row 48 7 (ps.map pktE)] [.lp 0 0, i64 to, i64 kind, i64 rank, i64 last, .lst 1 (cut.map intE) false] [true, false] [.cells 95 (agrE s ++ [.own 1]), .row 48 7 ((ps ++ [pktOf s to kind rank last cut]).map pktE), .dead] (.tup []) := by
  refine retM_of_body (fn := Try.f61) (c := Try.f61.body.getD .skip) hm hT (by kernel_rfl) Try.func61 (by kernel_rfl) (by kernel_rfl) (by kernel_rfl) (by kernel_rfl) (by kernel_rfl) ?_
  repeat' ((conv => whnf); first | refine And.intro (fun h => h) ?_ | refine dcond_t (by assumption) ?_ | refine dcond_f (by assumption) ?_ | (refine dcond_intro ?_ ?_ <;> intro h) | exact .refl | refine And.intro (by kernel_rfl) ?_ | refine And.intro ⟨fun h => h, fun h => h⟩ ?_ | refine .inl ⟨_, _, DleAll_refl _, c_agreement_clone _ hc, ?_⟩ | refine ⟨_, _, DleAll_refl _, fun _ => c_agreement_clone _ hc, ?_⟩ | refine ⟨_, _, DleAll_refl _, c_agreement_clone _ hc, ?_⟩ | refine And.intro (fitsP (by simp <;> omega)) ?_ | refine Exists.intro false ?_ | (refine And.intro ?_ ?_; focus (simp; done)) | fail)
  all_goals (conv => whnf)
  refine ⟨.refl, ⟨.refl, ole_row ?_, gh2, trivial⟩, by rfl⟩
  rw [List.map_append]
  rfl
def vA (l : List Rpt) (r : Rpt) (k : Nat) : Nat := ((l.take k).filter fun x => decide (x.rank = r.rank) && sameI x.cut r.cut).length
theorem vA_succ {l : List Rpt} {r : Rpt} {k : Nat} (h : k < l.length) : vA l r (k + 1) = vA l r k + if (decide (l[k].rank = r.rank) && sameI l[k].cut r.cut) = true then 1 else 0 := by
  unfold vA
  rw [List.take_succ_eq_append_getElem h, List.filter_append, List.length_append]
  cases hq : (decide (l[k].rank = r.rank) && sameI l[k].cut r.cut) <;> simp [hq]
theorem vA_le (l : List Rpt) (r : Rpt) (k : Nat) : vA l r k ≤ k :=
  Nat.le_trans (List.length_filter_le _ _) (by simp; omega)
def accAt (l : List Rpt) (m : Int) : Nat → Int × List Int
  | 0 => (0, [])
  | i + 1 => bif decide (m ≤ (vA l (l.getD i rpt0) l.length : Int)) && decide ((accAt l m i).1 < (l.getD i rpt0).rank) then ((l.getD i rpt0).rank, (l.getD i rpt0).cut) else accAt l m i
def accdR (s : Agr) : List Int := (accAt s.accs (majB s.view.mem.length) s.accs.length).2
end Go.Proofs.Ytmbniilpgbjcfaa

set_option maxRecDepth 100000
namespace Go.Proofs.Ytmbniilpgbjcfaa
open Go.Lift
theorem ofr_ix {l : List Rpt} {x : Int} (h : decide (0 ≤ ofB l x) = true) : ofB l x = ((ofB l x).toNat : Int) ∧ (ofB l x).toNat < l.length := by
  have h := of_decide_eq_true h
  refine ⟨by omega, ?_⟩
  unfold ofB at h ⊢
  rcases hf : (List.range l.length).find? (fun i => decide ((l.getD i rpt0).mem = x)) with _ | n
  · simp only [findB, hf] at h
    omega
  · have hn : n < l.length := List.mem_range.1 (List.mem_of_find?_eq_some hf)
    simp only [findB, hf, Int.toNat_natCast]
    exact hn
theorem ole_cellsA {t : TypeId} {cs ds : List DV} (h : DleAll cs ds) : ole (.cells t cs) (.cells t ds) := .cells (dleAll_get h).1 (dleAll_get h).2
def enterR (v : View) (l : List Rpt) (r : Rpt) : List Rpt :=
  bif decide (0 ≤ ofB l r.mem) then (bif decide ((l.getD (ofB l r.mem).toNat rpt0).rank < r.rank) then l.set (ofB l r.mem).toNat r else l) else (addR v l r).1
set_option maxHeartbeats 4000000 in
theorem m_enter0 (s : Agr) (hs : SmA s) (hok : repsB s.view s.accs = true) (r : Rpt) (hr : r.cut.length ≤ 1000) :
    RetM Try.prog 66 [.cells 95 (agrO s 1 ++ [.nl]), .row 73 3 (s.accs.map rptE)] [.lp 0 0, .agg (rptE r)] [true, false] [.cells 95 (agrO s 3 ++ [.nl]), .gone, .dead, .row 73 3 ((enterR s.view s.accs r).map rptE)] (.tup []) := by
  have e78 := c_agreement_reportOf s.accs (mx hs.accs) r.mem
  have m93 := m_AddReport s.view (by have := hs.mem; omega) s.accs (by have := hs.accs; omega) (fun b hb => by have := hs.accc b hb; omega) r (by omega) hok
  have hix := @ofr_ix s.accs r.mem
  have hy1 : decide (0 ≤ ofB s.accs r.mem) = true → decide ((s.accs.getD (ofB s.accs r.mem).toNat rpt0).rank < r.rank) = true → enterR s.view s.accs r = s.accs.set (ofB s.accs r.mem).toNat r := fun h1 h2 => by rw [enterR, h1, h2]; rfl
  have hy2 : decide (0 ≤ ofB s.accs r.mem) = true → decide ((s.accs.getD (ofB s.accs r.mem).toNat rpt0).rank < r.rank) = false → enterR s.view s.accs r = s.accs := fun h1 h2 => by rw [enterR, h1, h2]; rfl
  have hy3 : decide (0 ≤ ofB s.accs r.mem) = false → enterR s.view s.accs r = (addR s.view s.accs r).1 := fun h1 => by rw [enterR, h1]; rfl
  generalize enterR s.view s.accs r = E at *
  generalize addR s.view s.accs r = R at *
  refine retM_of_bodyA (fn := Try.f66) (c := Try.f66.body.getD .skip) hm hT (by kernel_rfl) Try.func66 (by kernel_rfl) (by kernel_rfl) (by kernel_rfl) (by kernel_rfl) (by kernel_rfl) ?_
  repeat' ((conv => whnf); first | refine And.intro (fun h => h) ?_ | refine dcond_t (by assumption) ?_ | refine dcond_f (by assumption) ?_ | (refine dcond_intro ?_ ?_ <;> intro h) | exact .refl | refine And.intro (by kernel_rfl) ?_ | refine And.intro ⟨fun h => h, fun h => h⟩ ?_ | refine .inl ⟨_, _, DleAll_refl _, c_agreement_clone _ (by omega), ?_⟩ | refine ⟨_, _, DleAll_refl _, fun _ => c_agreement_clone _ (by omega), ?_⟩ | refine ⟨_, _, DleAll_refl _, c_agreement_clone _ (by omega), ?_⟩ | refine .inl ⟨_, _, DleAll_refl _, e78, ?_⟩ | refine ⟨_, _, DleAll_refl _, fun _ => e78, ?_⟩ | refine ⟨_, _, DleAll_refl _, e78, ?_⟩ | refine Exists.intro false ?_ | (refine And.intro ?_ ?_; focus (simp; done)) | fail)
  all_goals (conv => whnf)
  · have h0 := h
    clear h
    obtain ⟨hk1, hk2⟩ := hix h0
    have hy1 := hy1 h0
    have hy2 := hy2 h0
    clear hix hy3 m93
    generalize (ofB s.accs r.mem).toNat = k at *
    have hkl : k < (s.accs.map rptE).length := by rw [List.length_map]; exact hk2
    have hg : s.accs.getD k rpt0 = s.accs[k] := by simp [hk2]
    have hget : (s.accs.map rptE)[k]? = some (rptE s.accs[k]) := get_map hk2
    rw [hg] at hy1 hy2
    repeat' ((conv => whnf); first | refine And.intro (fun h => h) ?_ | refine dcond_t (by assumption) ?_ | refine dcond_f (by assumption) ?_ | (refine dcond_intro ?_ ?_ <;> intro h) | exact .refl | refine And.intro (by kernel_rfl) ?_ | refine And.intro ⟨fun h => h, fun h => h⟩ ?_ | refine ⟨k, And.intro ⟨hk1, hkl⟩ ?_⟩ | refine ⟨rptE s.accs[k], And.intro hget ?_⟩ | refine ⟨rptE s.accs[k], hget, ?_⟩ | refine Exists.intro false ?_ | (refine And.intro ?_ ?_; focus (simp; done)) | fail)
    all_goals (conv => whnf)
    · rw [hy1 h]
      refine ⟨[.fresh 73 3, .xchg 1 5, .xchg 3 5, .bury 1], ?_⟩
      conv => whnf
      refine ⟨.refl, ⟨.refl, .refl, gh2, ole_row ?_, trivial⟩, by rfl⟩
      rw [List.map_set]
      rfl
    · rw [hy2 h]
      refine ⟨[.fresh 73 3, .xchg 1 5, .xchg 3 5, .bury 1], ?_⟩
      conv => whnf
      exact ⟨.refl, ⟨.refl, .refl, gh2, .refl, trivial⟩, by rfl⟩
  · rw [hy3 h]
    clear hy1 hy2 hy3 hix
    repeat' ((conv => whnf); first | refine And.intro (fun h => h) ?_ | refine dcond_t (by assumption) ?_ | refine dcond_f (by assumption) ?_ | (refine dcond_intro ?_ ?_ <;> intro h) | exact .refl | refine And.intro (by kernel_rfl) ?_ | refine And.intro ⟨fun h => h, fun h => h⟩ ?_ | refine .inr ?_ <;> (conv => whnf) <;> refine .inr ?_ <;> (conv => whnf) <;> refine ⟨_, _, _, m93, by rfl, ⟨.refl, .refl, .refl, trivial⟩, ?_⟩ | refine Exists.intro false ?_ | (refine And.intro ?_ ?_; focus (simp; done)) | fail)
    all_goals (conv => whnf)
    refine ⟨[.xchg 3 5], ?_⟩
    conv => whnf
    exact ⟨.refl, ⟨.refl, .refl, gh2, .refl, trivial⟩, by rfl⟩
theorem m_enter (s : Agr) (hs : SmA s) (hok : repsB s.view s.accs = true) (r : Rpt) (hr : r.cut.length ≤ 1000) :
    RetM Try.prog 66 [.cells 95 (agrO s 1 ++ [.nl]), .row 73 3 (s.accs.map rptE)] [.lp 0 0, .agg (rptE r)] [true, false] [.cells 95 (agrO s 2 ++ [.nl]), .gone, .row 73 3 ((enterR s.view s.accs r).map rptE)] (.tup []) :=
  (m_enter0 s hs hok r hr).squeeze (L1 := [.cells 95 (agrO s 3 ++ [.nl]), .gone]) (L2 := [.row 73 3 ((enterR s.view s.accs r).map rptE)]) (Nat.le_refl _)
set_option maxHeartbeats 4000000 in
theorem m_enterS (s : Agr) (hs : SmA s) (hok : repsB s.view s.accs = true) (r : Rpt) (hr : r.cut.length ≤ 1000) :
    RetM Try.prog 66 [.cells 95 (agrO s 1 ++ [.nl]), .row 73 3 (s.accs.map rptE)] [.lp 0 0, .agg (rptE r)] [true, false] [.cells 95 (agrE { s with accs := enterR s.view s.accs r } ++ [.nl]), .gone] (.tup []) := by
  have e78 := c_agreement_reportOf s.accs (mx hs.accs) r.mem
  have m93 := m_AddReport s.view (by have := hs.mem; omega) s.accs (by have := hs.accs; omega) (fun b hb => by have := hs.accc b hb; omega) r (by omega) hok
  have hix := @ofr_ix s.accs r.mem
  have hy1 : decide (0 ≤ ofB s.accs r.mem) = true → decide ((s.accs.getD (ofB s.accs r.mem).toNat rpt0).rank < r.rank) = true → enterR s.view s.accs r = s.accs.set (ofB s.accs r.mem).toNat r := fun h1 h2 => by rw [enterR, h1, h2]; rfl
  have hy2 : decide (0 ≤ ofB s.accs r.mem) = true → decide ((s.accs.getD (ofB s.accs r.mem).toNat rpt0).rank < r.rank) = false → enterR s.view s.accs r = s.accs := fun h1 h2 => by rw [enterR, h1, h2]; rfl
  have hy3 : decide (0 ≤ ofB s.accs r.mem) = false → enterR s.view s.accs r = (addR s.view s.accs r).1 := fun h1 => by rw [enterR, h1]; rfl
  generalize enterR s.view s.accs r = E at *
  generalize addR s.view s.accs r = R at *
  refine retM_of_bodyA (fn := Try.f66) (c := Try.f66.body.getD .skip) hm hT (by kernel_rfl) Try.func66 (by kernel_rfl) (by kernel_rfl) (by kernel_rfl) (by kernel_rfl) (by kernel_rfl) ?_
  repeat' ((conv => whnf); first | refine And.intro (fun h => h) ?_ | refine dcond_t (by assumption) ?_ | refine dcond_f (by assumption) ?_ | (refine dcond_intro ?_ ?_ <;> intro h) | exact .refl | refine And.intro (by kernel_rfl) ?_ | refine And.intro ⟨fun h => h, fun h => h⟩ ?_ | refine .inl ⟨_, _, DleAll_refl _, c_agreement_clone _ (by omega), ?_⟩ | refine ⟨_, _, DleAll_refl _, fun _ => c_agreement_clone _ (by omega), ?_⟩ | refine ⟨_, _, DleAll_refl _, c_agreement_clone _ (by omega), ?_⟩ | refine .inl ⟨_, _, DleAll_refl _, e78, ?_⟩ | refine ⟨_, _, DleAll_refl _, fun _ => e78, ?_⟩ | refine ⟨_, _, DleAll_refl _, e78, ?_⟩ | refine Exists.intro false ?_ | (refine And.intro ?_ ?_; focus (simp; done)) | fail)
  all_goals (conv => whnf)
  · have h0 := h
    clear h
    obtain ⟨hk1, hk2⟩ := hix h0
    have hy1 := hy1 h0
    have hy2 := hy2 h0
    clear hix hy3 m93
    generalize (ofB s.accs r.mem).toNat = k at *
    have hkl : k < (s.accs.map rptE).length := by rw [List.length_map]; exact hk2
    have hg : s.accs.getD k rpt0 = s.accs[k] := by simp [hk2]
    have hget : (s.accs.map rptE)[k]? = some (rptE s.accs[k]) := get_map hk2
    rw [hg] at hy1 hy2
    repeat' ((conv => whnf); first | refine And.intro (fun h => h) ?_ | refine dcond_t (by assumption) ?_ | refine dcond_f (by assumption) ?_ | (refine dcond_intro ?_ ?_ <;> intro h) | exact .refl | refine And.intro (by kernel_rfl) ?_ | refine And.intro ⟨fun h => h, fun h => h⟩ ?_ | refine ⟨k, And.intro ⟨hk1, hkl⟩ ?_⟩ | refine ⟨rptE s.accs[k], And.intro hget ?_⟩ | refine ⟨rptE s.accs[k], hget, ?_⟩ | refine Exists.intro false ?_ | (refine And.intro ?_ ?_; focus (simp; done)) | fail)
    all_goals (conv => whnf)
    · rw [hy1 h]
      refine ⟨[.shutc 0 12, .bury 1], ?_⟩
      conv => whnf
      refine ⟨.refl, ⟨ole_cellsA ⟨.refl, .refl, .refl, .refl, .refl, .refl, .refl, .refl, .refl, .refl, .refl, .refl, dle_lst ?_, .refl, .refl, .refl, trivial⟩, .refl, gh2, trivial⟩, by rfl⟩
      rw [List.map_set]
      rfl
    · rw [hy2 h]
      refine ⟨[.shutc 0 12, .bury 1], ?_⟩
      conv => whnf
      exact ⟨.refl, ⟨.refl, .refl, gh2, trivial⟩, by rfl⟩
  · rw [hy3 h]
    clear hy1 hy2 hy3 hix
    repeat' ((conv => whnf); first | refine And.intro (fun h => h) ?_ | refine dcond_t (by assumption) ?_ | refine dcond_f (by assumption) ?_ | (refine dcond_intro ?_ ?_ <;> intro h) | exact .refl | refine And.intro (by kernel_rfl) ?_ | refine And.intro ⟨fun h => h, fun h => h⟩ ?_ | refine .inr ?_ <;> (conv => whnf) <;> refine .inr ?_ <;> (conv => whnf) <;> refine ⟨_, _, _, m93, by rfl, ⟨.refl, .refl, .refl, trivial⟩, ?_⟩ | refine Exists.intro false ?_ | (refine And.intro ?_ ?_; focus (simp; done)) | fail)
    all_goals (conv => whnf)
    refine ⟨[.xchg 1 5, .shutc 0 12, .bury 1], ?_⟩
    conv => whnf
    exact ⟨.refl, ⟨.refl, .refl, gh2, trivial⟩, by rfl⟩
end Go.Proofs.Ytmbniilpgbjcfaa

set_option maxRecDepth 100000
namespace Go.Proofs.Ytmbniilpgbjcfaa
open Go.Lift
def idleA (s : Agr) : Agr := { s with phase := 0, reps := [], cho := [] }
theorem c_idle (s : Agr) : RetM Try.prog 92 [.cells 95 (agrE s ++ [.nl])] [.lp 0 0] [true] [.cells 95 (agrE (idleA s) ++ [.nl])] (.tup []) := by
  refine retM_of_bodyA (fn := Try.f92) (c := Try.f92.body.getD .skip) hm hT (by kernel_rfl) Try.func92 (by kernel_rfl) (by kernel_rfl) (by kernel_rfl) (by kernel_rfl) (by kernel_rfl) ?_
  repeat' ((conv => whnf); first | refine And.intro (fun h => h) ?_ | refine dcond_t (by assumption) ?_ | refine dcond_f (by assumption) ?_ | (refine dcond_intro ?_ ?_ <;> intro h) | exact .refl | refine And.intro (by kernel_rfl) ?_ | refine And.intro ⟨fun h => h, fun h => h⟩ ?_ | refine Exists.intro false ?_ | (refine And.intro ?_ ?_; focus (simp; done)) | fail)
  all_goals (conv => whnf)
  all_goals (refine ⟨[], ?_⟩)
  all_goals (conv => whnf)
  all_goals (exact ⟨.refl, ⟨ole_cellsA ⟨.refl, .refl, .refl, .refl, .refl, .refl, .refl, .refl, .refl, .refl, .nl, .nl, .refl, .refl, .refl, .refl, trivial⟩, .refl, trivial⟩, by rfl⟩)
theorem m_idle (s : Agr) : RetM Try.prog 92 [.cells 95 (agrO s 1 ++ [.nl]), .row 73 3 (s.accs.map rptE)] [.lp 0 0] [true, true] [.cells 95 (agrO (idleA s) 1 ++ [.nl]), .row 73 3 (s.accs.map rptE)] (.tup []) := by
  refine retM_of_bodyA (fn := Try.f92) (c := Try.f92.body.getD .skip) hm hT (by kernel_rfl) Try.func92 (by kernel_rfl) (by kernel_rfl) (by kernel_rfl) (by kernel_rfl) (by kernel_rfl) ?_
  repeat' ((conv => whnf); first | refine And.intro (fun h => h) ?_ | refine dcond_t (by assumption) ?_ | refine dcond_f (by assumption) ?_ | (refine dcond_intro ?_ ?_ <;> intro h) | exact .refl | refine And.intro (by kernel_rfl) ?_ | refine And.intro ⟨fun h => h, fun h => h⟩ ?_ | refine Exists.intro false ?_ | (refine And.intro ?_ ?_; focus (simp; done)) | fail)
  all_goals (conv => whnf)
  all_goals (refine ⟨[], ?_⟩)
  all_goals (conv => whnf)
  all_goals (exact ⟨.refl, ⟨ole_cellsA ⟨.refl, .refl, .refl, .refl, .refl, .refl, .refl, .refl, .refl, .refl, .nl, .nl, .refl, .refl, .refl, .refl, trivial⟩, .refl, .refl, trivial⟩, by rfl⟩)
theorem m_majority_acc (s : Agr) : RetM Try.prog 109 [.cells 95 (agrO s 1 ++ [.nl]), .row 73 3 (s.accs.map rptE)] [.lp 0 0] [true, true] [.cells 95 (agrO s 1 ++ [.nl]), .row 73 3 (s.accs.map rptE)] (i64 (majB s.view.mem.length)) := by
  have e : Ret Try.prog 77 [i64 ((s.view.mem.map intE).length : Int)] (i64 (majB s.view.mem.length)) := by
    rw [List.length_map]
    exact c_view_Majority _
  refine retM_of_body (fn := Try.f109) (c := Try.f109.body.getD .skip) hm hT (by kernel_rfl) Try.func109 (by kernel_rfl) (by kernel_rfl) (by kernel_rfl) (by kernel_rfl) (by kernel_rfl) ?_
  repeat' ((conv => whnf); first | refine And.intro (fun h => h) ?_ | refine dcond_t (by assumption) ?_ | refine dcond_f (by assumption) ?_ | (refine dcond_intro ?_ ?_ <;> intro h) | exact .refl | refine And.intro (by kernel_rfl) ?_ | refine And.intro ⟨fun h => h, fun h => h⟩ ?_ | refine .inl ⟨_, _, DleAll_refl _, e, ?_⟩ | refine ⟨_, _, DleAll_refl _, fun _ => e, ?_⟩ | refine ⟨_, _, DleAll_refl _, e, ?_⟩ | refine Exists.intro false ?_ | (refine And.intro ?_ ?_; focus (simp; done)) | fail)
  all_goals (conv => whnf)
  exact ⟨.refl, ⟨.refl, .refl, .refl, trivial⟩, by rfl⟩
theorem choose_len {v : View} {l : List Rpt} {own : List Int} {N : Nat} (hc : ∀ r ∈ l, r.cut.length ≤ N) (ho : own.length ≤ N) : (chooseR v l own).1.length ≤ N := by
  unfold chooseR
  cases gateB v l own
  · rw [cond_false]
    cases decide (0 < (l.getD (hiAt l l.length) rpt0).rank)
    · rw [cond_false]
      cases hf : (boxOf l).find? (fun b => decide (thrB v l ≤ (votesN (boxOf l) b.cut : Int))) with
      | some b => exact box_cut hc b (List.mem_of_find?_eq_some hf)
      | none =>
        cases decide ((own.length : Int) = 0)
        · exact ho
        · exact Nat.zero_le _
    · rw [cond_true]
      rcases Nat.lt_or_ge (hiAt l l.length) l.length with h | h
      · simp only [List.getD_eq_getElem?_getD, List.getElem?_eq_getElem h, Option.getD_some]
        exact hc _ (List.getElem_mem h)
      · simp only [List.getD_eq_getElem?_getD, List.getElem?_eq_none h, Option.getD_none]
        exact Nat.zero_le _
  · exact Nat.zero_le _
def advA (s : Agr) : Agr :=
  bif !decide (s.phase = 1) || decide ((s.reps.length : Int) < majB s.view.mem.length) then s
  else bif (acceptR s.acc s.rank (chooseR s.view s.reps s.prop).1).2 then
    { s with cho := (chooseR s.view s.reps s.prop).1, phase := 2, acc := (acceptR s.acc s.rank (chooseR s.view s.reps s.prop).1).1, accs := enterR s.view s.accs ⟨s.self, s.rank, (chooseR s.view s.reps s.prop).1⟩ }
  else idleA s
set_option maxHeartbeats 8000000 in
theorem m_advance (s : Agr) (hs : SmA s) (hok : repsB s.view s.accs = true) : RetM Try.prog 94 [.cells 95 (agrO s 1 ++ [.nl]), .row 73 3 (s.accs.map rptE)] [.lp 0 0] [true, false] [.cells 95 (agrE (advA s) ++ [.nl]), .gone] (.tup []) := by
  have e1 := m_majority_acc s
  have hcl := choose_len (v := s.view) (l := s.reps) (own := s.prop) hs.repc hs.prop
  have e2 := c_paxos_Choose s.view (by have := hs.mem; omega) s.reps (by have := hs.reps; omega) (fun b hb => by have := hs.repc b hb; omega) s.prop (by have := hs.prop; omega)
  have hy0 : (!decide (s.phase = 1) || decide ((s.reps.length : Int) < majB s.view.mem.length)) = true → advA s = s := fun h => by rw [advA, h, cond_true]
  have hy1 : (!decide (s.phase = 1) || decide ((s.reps.length : Int) < majB s.view.mem.length)) = false → (acceptR s.acc s.rank (chooseR s.view s.reps s.prop).1).2 = true → advA s = { s with cho := (chooseR s.view s.reps s.prop).1, phase := 2, acc := (acceptR s.acc s.rank (chooseR s.view s.reps s.prop).1).1, accs := enterR s.view s.accs ⟨s.self, s.rank, (chooseR s.view s.reps s.prop).1⟩ } := fun h h2 => by rw [advA, h, h2, cond_false, cond_true]
  have hy2 : (!decide (s.phase = 1) || decide ((s.reps.length : Int) < majB s.view.mem.length)) = false → (acceptR s.acc s.rank (chooseR s.view s.reps s.prop).1).2 = false → advA s = idleA s := fun h h2 => by rw [advA, h, h2, cond_false, cond_false]
  generalize chooseR s.view s.reps s.prop = C at *
  have e3 := c_paxos_OnAccept s.acc (by have := hs.acut; omega) s.rank C.1 (by omega)
  have hal := accept_len (rank := s.rank) hs.acut hcl
  generalize acceptR s.acc s.rank C.1 = X at *
  have e4 := m_idle { s with cho := C.1, phase := 2 }
  have hs2 : SmA { s with cho := C.1, phase := 2, acc := X.1 } := ⟨hs.mem, hal, hs.prop, hs.box, hs.boxc, hs.reps, hs.repc, hcl, hs.accs, hs.accc, hs.dec⟩
  have e5 := m_enterS _ hs2 hok ⟨s.self, s.rank, C.1⟩ hcl
  generalize advA s = A at *
  refine retM_of_bodyA (fn := Try.f94) (c := Try.f94.body.getD .skip) hm hT (by kernel_rfl) Try.func94 (by kernel_rfl) (by kernel_rfl) (by kernel_rfl) (by kernel_rfl) (by kernel_rfl) ?_
  repeat' ((conv => whnf); first | refine And.intro (fun h => h) ?_ | refine dcond_t (by assumption) ?_ | refine dcond_f (by assumption) ?_ | (refine dcond_intro ?_ ?_ <;> intro h) | exact .refl | refine And.intro (by kernel_rfl) ?_ | refine And.intro ⟨fun h => h, fun h => h⟩ ?_ | refine Exists.intro (i64 0) ?_ | refine And.intro ⟨fun h => h, fun hg => Bool.noConfusion (hg.symm.trans h)⟩ ?_ | refine .inl ⟨[0, 1], _, _, _, _, e1, by rfl, ⟨rfl, rfl, trivial⟩, ⟨.refl, trivial⟩, ?_⟩ | refine .inl ⟨_, _, DleAll_refl _, e2, ?_⟩ | refine ⟨_, _, DleAll_refl _, fun _ => e2, ?_⟩ | refine ⟨_, _, DleAll_refl _, e2, ?_⟩ | refine .inl ⟨_, _, DleAll_refl _, e3, ?_⟩ | refine ⟨_, _, DleAll_refl _, fun _ => e3, ?_⟩ | refine ⟨_, _, DleAll_refl _, e3, ?_⟩ | refine .inr ⟨[0, 1], _, _, _, _, _, e4, by rfl, ⟨.refl, .refl, trivial⟩, ⟨.refl, trivial⟩, ?_⟩ | refine .inr ⟨[0, 1], _, _, _, _, _, e5, by rfl, ⟨.refl, .refl, trivial⟩, ⟨.refl, .refl, trivial⟩, ?_⟩ | refine Exists.intro false ?_ | (refine And.intro ?_ ?_; focus (simp; done)) | fail)
  all_goals (conv => whnf)
  all_goals simp only [List.length_map] at *
  · rw [hy0 (by assumption)]
    refine ⟨[.shutc 0 12, .bury 1], ?_⟩
    conv => whnf
    exact ⟨.refl, ⟨.refl, .refl, gh2, trivial⟩, by rfl⟩
  · rename_i h1 h2
    rw [hy2 h (by simpa using h2)]
    refine ⟨[.shutc 0 12, .bury 1], ?_⟩
    conv => whnf
    exact ⟨.refl, ⟨.refl, .refl, gh2, trivial⟩, by rfl⟩
  · rename_i h1 h2
    rw [hy1 h (by simpa using h2)]
    refine ⟨[], ?_⟩
    conv => whnf
    exact ⟨.refl, ⟨.refl, .refl, gh2, trivial⟩, by rfl⟩
  · rename_i h1
    rw [hy0 (by simp at h1; simp [h1])]
    refine ⟨[.shutc 0 12, .bury 1], ?_⟩
    conv => whnf
    exact ⟨.refl, ⟨.refl, .refl, gh2, trivial⟩, by rfl⟩
  all_goals
    rename_i h1 h2
    simp at h1 h
    exact absurd h h1
end Go.Proofs.Ytmbniilpgbjcfaa

set_option maxRecDepth 100000
namespace Go.Proofs.Ytmbniilpgbjcfaa
open Go.Lift
theorem m_majority_own (s : Agr) (ps : List Pkt) : RetM Try.prog 109 [.cells 95 (agrE s ++ [.own 1]), .row 48 7 (ps.map pktE)] [.lp 0 0] [true, true] [.cells 95 (agrE s ++ [.own 1]), .row 48 7 (ps.map pktE)] (i64 (majB s.view.mem.length)) := by
  have e : Ret Try.prog 77 [i64 ((s.view.mem.map intE).length : Int)] (i64 (majB s.view.mem.length)) := by
    rw [List.length_map]
    exact c_view_Majority _
  refine retM_of_body (fn := Try.f109) (c := Try.f109.body.getD .skip) hm hT (by kernel_rfl) Try.func109 (by kernel_rfl) (by kernel_rfl) (by kernel_rfl) (by kernel_rfl) (by kernel_rfl) ?_
  repeat' ((conv => whnf); first | refine And.intro (fun h => h) ?_ | refine dcond_t (by assumption) ?_ | refine dcond_f (by assumption) ?_ | (refine dcond_intro ?_ ?_ <;> intro h) | exact .refl | refine And.intro (by kernel_rfl) ?_ | refine And.intro ⟨fun h => h, fun h => h⟩ ?_ | refine .inl ⟨_, _, DleAll_refl _, e, ?_⟩ | refine ⟨_, _, DleAll_refl _, fun _ => e, ?_⟩ | refine ⟨_, _, DleAll_refl _, e, ?_⟩ | refine Exists.intro false ?_ | (refine And.intro ?_ ?_; focus (simp; done)) | fail)
  all_goals (conv => whnf)
  exact ⟨.refl, ⟨.refl, .refl, .refl, trivial⟩, by rfl⟩
set_option maxHeartbeats 2000000 in
theorem m_accepted_nil (s : Agr) (hs : SmA s) : RetM Try.prog 90 [.cells 95 (agrE s ++ [.nl])] [.lp 0 0] [true] [.cells 95 (agrE s ++ [.nl])] (.lst 1 ((accdR s).map intE) false) := by
  have e109 := c_majority s .nl
  have hal := hs.accs
  refine retM_of_body (fn := Try.f90) (c := Try.f90.body.getD .skip) hm hT (by kernel_rfl) Try.func90 (by kernel_rfl) (by kernel_rfl) (by kernel_rfl) (by kernel_rfl) (by kernel_rfl) ?_
  repeat' ((conv => whnf); first | refine And.intro (fun h => h) ?_ | refine dcond_t (by assumption) ?_ | refine dcond_f (by assumption) ?_ | (refine dcond_intro ?_ ?_ <;> intro h) | exact .refl | refine And.intro (by kernel_rfl) ?_ | refine And.intro ⟨fun h => h, fun h => h⟩ ?_ | refine Exists.intro false ?_ | (refine And.intro ?_ ?_; focus (simp; done)) | fail)
  all_goals (conv => whnf)
  refine ⟨Nat, fun i => ⟨[(0, .lp 0 0), (3, i64 (accAt s.accs (majB s.view.mem.length) i).1), (4, .lst 1 ((accAt s.accs (majB s.view.mem.length) i).2.map intE) false), (14, .lst 3 (s.accs.map rptE) false), (15, i64 s.accs.length), (16, i64 i)], [.cells 95 (agrE s ++ [.nl]), .gh [.lp 0 0]]⟩, fun i => i ≤ s.accs.length, fun i => s.accs.length - i, [], ⟨0, Nat.zero_le _, ?_⟩, ?_⟩
  · conv => whnf
    exact ⟨⟨.refl, .refl, .nl, .refl, dle_int (by simp), .refl, trivial⟩, ⟨.refl, .refl, trivial⟩, by rfl⟩
  · intro i hi
    conv => whnf
    refine dcond_intro ?_ ?_ <;> intro h
    · have hlt : i < s.accs.length := by simpa using h
      clear h
      have hg : s.accs.getD i rpt0 = s.accs[i] := by simp [hlt]
      have hci := hs.accc _ (List.getElem_mem hlt)
      have hacc : accAt s.accs (majB s.view.mem.length) (i + 1) = bif decide (majB s.view.mem.length ≤ (vA s.accs s.accs[i] s.accs.length : Int)) && decide ((accAt s.accs (majB s.view.mem.length) i).1 < s.accs[i].rank) then (s.accs[i].rank, s.accs[i].cut) else accAt s.accs (majB s.view.mem.length) i := by
        rw [← hg]
        rfl
      have hgx : (s.accs.map rptE)[i]? = some (rptE s.accs[i]) := get_map hlt
      obtain ⟨r, hr⟩ : ∃ r, r = s.accs[i] := ⟨_, rfl⟩
      rw [← hr] at hci hacc hgx
      repeat' ((conv => whnf); first | refine And.intro (fun h => h) ?_ | refine dcond_t (by assumption) ?_ | refine dcond_f (by assumption) ?_ | (refine dcond_intro ?_ ?_ <;> intro h) | exact .refl | refine And.intro (by kernel_rfl) ?_ | refine And.intro ⟨fun h => h, fun h => h⟩ ?_ | refine ⟨i, rptE r, And.intro ⟨rfl, hgx⟩ ?_⟩ | refine Exists.intro false ?_ | (refine And.intro ?_ ?_; focus (simp; done)) | fail)
      all_goals (conv => whnf)
      refine ⟨Nat, fun k => ⟨[(0, .lp 0 0), (3, i64 (accAt s.accs (majB s.view.mem.length) i).1), (4, .lst 1 ((accAt s.accs (majB s.view.mem.length) i).2.map intE) false), (6, .lp 2 0), (7, i64 (vA s.accs r k)), (14, .lst 3 (s.accs.map rptE) false), (15, i64 s.accs.length), (16, i64 i), (24, .lst 3 (s.accs.map rptE) false), (25, i64 s.accs.length), (26, i64 k)], [.cells 95 (agrE s ++ [.nl]), .gh [.lp 0 0], .cells 73 (rptE r)]⟩, fun k => k ≤ s.accs.length, fun k => s.accs.length - k, [], ⟨0, Nat.zero_le _, ?_⟩, ?_⟩
      · conv => whnf
        exact ⟨⟨.refl, .refl, .refl, .refl, .refl, .refl, .refl, .refl, .refl, dle_int (by simp), .refl, trivial⟩, ⟨.refl, .refl, .refl, trivial⟩, by rfl⟩
      · intro k hk
        conv => whnf
        refine dcond_intro ?_ ?_ <;> intro h
        · have hltk : k < s.accs.length := by simpa using h
          clear h
          have hvk := vA_succ (r := r) hltk
          have hvl := vA_le s.accs r k
          have e42 := c_fastvote_Same s.accs[k].cut r.cut (by have := hs.accc _ (List.getElem_mem hltk); exact mx this)
          repeat' ((conv => whnf); first | refine And.intro (fun h => h) ?_ | refine dcond_t (by assumption) ?_ | refine dcond_f (by assumption) ?_ | (refine dcond_intro ?_ ?_ <;> intro h) | exact .refl | refine And.intro (by kernel_rfl) ?_ | refine And.intro ⟨fun h => h, fun h => h⟩ ?_ | refine ⟨_, _, And.intro ⟨rfl, get_map hltk⟩ ?_⟩ | refine .inl ⟨_, _, DleAll_refl _, e42, ?_⟩ | refine ⟨_, _, DleAll_refl _, fun _ => e42, ?_⟩ | refine ⟨_, _, DleAll_refl _, e42, ?_⟩ | refine Exists.intro false ?_ | (refine And.intro ?_ ?_; focus (simp; done)) | fail)
          all_goals (conv => whnf)
          · refine ⟨k + 1, hltk, by simp only []; omega, ?_⟩
            conv => whnf
            refine ⟨⟨.refl, .refl, .refl, .refl, ?_, .refl, .refl, .refl, .refl, .refl, dle_int (wrap_succ (by omega)), trivial⟩, ⟨.refl, .refl, .refl, trivial⟩, by rfl⟩
            rw [hvk, if_pos h]
            exact dle_int (wrap_succ (by omega))
          · refine ⟨k + 1, hltk, by simp only []; omega, ?_⟩
            conv => whnf
            refine ⟨⟨.refl, .refl, .refl, .refl, ?_, .refl, .refl, .refl, .refl, .refl, dle_int (wrap_succ (by omega)), trivial⟩, ⟨.refl, .refl, .refl, trivial⟩, by rfl⟩
            rw [hvk, if_neg (by rw [h]; simp)]
            exact .refl
        · have hge : ¬ k < s.accs.length := by simpa using h
          have : k = s.accs.length := by omega
          subst this
          clear h
          repeat' ((conv => whnf); first | refine And.intro (fun h => h) ?_ | refine dcond_t (by assumption) ?_ | refine dcond_f (by assumption) ?_ | (refine dcond_intro ?_ ?_ <;> intro h) | exact .refl | refine And.intro (by kernel_rfl) ?_ | refine And.intro ⟨fun h => h, fun h => h⟩ ?_ | refine .inl ⟨_, _, DleAll_refl _, e109, ?_⟩ | refine ⟨_, _, DleAll_refl _, fun _ => e109, ?_⟩ | refine ⟨_, _, DleAll_refl _, e109, ?_⟩ | refine Exists.intro false ?_ | (refine And.intro ?_ ?_; focus (simp; done)) | fail)
          all_goals (conv => whnf)
          · rw [h, cond_true] at hacc
            refine ⟨i + 1, hlt, by simp only []; omega, ?_⟩
            conv => whnf
            exact ⟨⟨.refl, dle_int (by rw [hacc]), dle_lst (by rw [hacc]), .refl, .refl, dle_int (wrap_succ (by omega)), trivial⟩, ⟨.refl, .refl, trivial⟩, by rfl⟩
          · rw [h, cond_false] at hacc
            refine ⟨i + 1, hlt, by simp only []; omega, ?_⟩
            conv => whnf
            exact ⟨⟨.refl, dle_int (by rw [hacc]), dle_lst (by rw [hacc]), .refl, .refl, dle_int (wrap_succ (by omega)), trivial⟩, ⟨.refl, .refl, trivial⟩, by rfl⟩
    · have hge : ¬ i < s.accs.length := by simpa using h
      have : i = s.accs.length := by omega
      subst this
      clear h
      repeat' ((conv => whnf); first | refine And.intro (fun h => h) ?_ | refine dcond_t (by assumption) ?_ | refine dcond_f (by assumption) ?_ | (refine dcond_intro ?_ ?_ <;> intro h) | exact .refl | refine And.intro (by kernel_rfl) ?_ | refine And.intro ⟨fun h => h, fun h => h⟩ ?_ | refine Exists.intro false ?_ | (refine And.intro ?_ ?_; focus (simp; done)) | fail)
      all_goals (conv => whnf)
      exact ⟨.refl, ⟨.refl, .refl, trivial⟩, by rfl⟩
set_option maxHeartbeats 2000000 in
theorem m_accepted_own (s : Agr) (hs : SmA s) (ps : List Pkt) : RetM Try.prog 90 [.cells 95 (agrE s ++ [.own 1]), .row 48 7 (ps.map pktE)] [.lp 0 0] [true, true] [.cells 95 (agrE s ++ [.own 1]), .row 48 7 (ps.map pktE)] (.lst 1 ((accdR s).map intE) false) := by
  have hal := hs.accs
  refine retM_of_body (fn := Try.f90) (c := Try.f90.body.getD .skip) hm hT (by kernel_rfl) Try.func90 (by kernel_rfl) (by kernel_rfl) (by kernel_rfl) (by kernel_rfl) (by kernel_rfl) ?_
  repeat' ((conv => whnf); first | refine And.intro (fun h => h) ?_ | refine dcond_t (by assumption) ?_ | refine dcond_f (by assumption) ?_ | (refine dcond_intro ?_ ?_ <;> intro h) | exact .refl | refine And.intro (by kernel_rfl) ?_ | refine And.intro ⟨fun h => h, fun h => h⟩ ?_ | refine Exists.intro false ?_ | (refine And.intro ?_ ?_; focus (simp; done)) | fail)
  all_goals (conv => whnf)
  refine ⟨Nat, fun i => ⟨[(0, .lp 0 0), (3, i64 (accAt s.accs (majB s.view.mem.length) i).1), (4, .lst 1 ((accAt s.accs (majB s.view.mem.length) i).2.map intE) false), (14, .lst 3 (s.accs.map rptE) false), (15, i64 s.accs.length), (16, i64 i)], [.cells 95 (agrE s ++ [.own 1]), .row 48 7 (ps.map pktE), .gh [.lp 0 0, .own 1]]⟩, fun i => i ≤ s.accs.length, fun i => s.accs.length - i, [], ⟨0, Nat.zero_le _, ?_⟩, ?_⟩
  · conv => whnf
    exact ⟨⟨.refl, .refl, .nl, .refl, dle_int (by simp), .refl, trivial⟩, ⟨.refl, .refl, .refl, trivial⟩, by rfl⟩
  · intro i hi
    conv => whnf
    refine dcond_intro ?_ ?_ <;> intro h
    · have hlt : i < s.accs.length := by simpa using h
      clear h
      have hg : s.accs.getD i rpt0 = s.accs[i] := by simp [hlt]
      have hci := hs.accc _ (List.getElem_mem hlt)
      have hacc : accAt s.accs (majB s.view.mem.length) (i + 1) = bif decide (majB s.view.mem.length ≤ (vA s.accs s.accs[i] s.accs.length : Int)) && decide ((accAt s.accs (majB s.view.mem.length) i).1 < s.accs[i].rank) then (s.accs[i].rank, s.accs[i].cut) else accAt s.accs (majB s.view.mem.length) i := by
        rw [← hg]
        rfl
      have hgx : (s.accs.map rptE)[i]? = some (rptE s.accs[i]) := get_map hlt
      obtain ⟨r, hr⟩ : ∃ r, r = s.accs[i] := ⟨_, rfl⟩
      rw [← hr] at hci hacc hgx
      repeat' ((conv => whnf); first | refine And.intro (fun h => h) ?_ | refine dcond_t (by assumption) ?_ | refine dcond_f (by assumption) ?_ | (refine dcond_intro ?_ ?_ <;> intro h) | exact .refl | refine And.intro (by kernel_rfl) ?_ | refine And.intro ⟨fun h => h, fun h => h⟩ ?_ | refine ⟨i, rptE r, And.intro ⟨rfl, hgx⟩ ?_⟩ | refine Exists.intro false ?_ | (refine And.intro ?_ ?_; focus (simp; done)) | fail)
      all_goals (conv => whnf)
      refine ⟨Nat, fun k => ⟨[(0, .lp 0 0), (3, i64 (accAt s.accs (majB s.view.mem.length) i).1), (4, .lst 1 ((accAt s.accs (majB s.view.mem.length) i).2.map intE) false), (6, .lp 3 0), (7, i64 (vA s.accs r k)), (14, .lst 3 (s.accs.map rptE) false), (15, i64 s.accs.length), (16, i64 i), (24, .lst 3 (s.accs.map rptE) false), (25, i64 s.accs.length), (26, i64 k)], [.cells 95 (agrE s ++ [.own 1]), .row 48 7 (ps.map pktE), .gh [.lp 0 0, .own 1], .cells 73 (rptE r)]⟩, fun k => k ≤ s.accs.length, fun k => s.accs.length - k, [], ⟨0, Nat.zero_le _, ?_⟩, ?_⟩
      · conv => whnf
        exact ⟨⟨.refl, .refl, .refl, .refl, .refl, .refl, .refl, .refl, .refl, dle_int (by simp), .refl, trivial⟩, ⟨.refl, .refl, .refl, .refl, trivial⟩, by rfl⟩
      · intro k hk
        conv => whnf
        refine dcond_intro ?_ ?_ <;> intro h
        · have hltk : k < s.accs.length := by simpa using h
          clear h
          have hvk := vA_succ (r := r) hltk
          have hvl := vA_le s.accs r k
          have e42 := c_fastvote_Same s.accs[k].cut r.cut (by have := hs.accc _ (List.getElem_mem hltk); exact mx this)
          repeat' ((conv => whnf); first | refine And.intro (fun h => h) ?_ | refine dcond_t (by assumption) ?_ | refine dcond_f (by assumption) ?_ | (refine dcond_intro ?_ ?_ <;> intro h) | exact .refl | refine And.intro (by kernel_rfl) ?_ | refine And.intro ⟨fun h => h, fun h => h⟩ ?_ | refine ⟨_, _, And.intro ⟨rfl, get_map hltk⟩ ?_⟩ | refine .inl ⟨_, _, DleAll_refl _, e42, ?_⟩ | refine ⟨_, _, DleAll_refl _, fun _ => e42, ?_⟩ | refine ⟨_, _, DleAll_refl _, e42, ?_⟩ | refine Exists.intro false ?_ | (refine And.intro ?_ ?_; focus (simp; done)) | fail)
          all_goals (conv => whnf)
          · refine ⟨k + 1, hltk, by simp only []; omega, ?_⟩
            conv => whnf
            refine ⟨⟨.refl, .refl, .refl, .refl, ?_, .refl, .refl, .refl, .refl, .refl, dle_int (wrap_succ (by omega)), trivial⟩, ⟨.refl, .refl, .refl, .refl, trivial⟩, by rfl⟩
            rw [hvk, if_pos h]
            exact dle_int (wrap_succ (by omega))
          · refine ⟨k + 1, hltk, by simp only []; omega, ?_⟩
            conv => whnf
            refine ⟨⟨.refl, .refl, .refl, .refl, ?_, .refl, .refl, .refl, .refl, .refl, dle_int (wrap_succ (by omega)), trivial⟩, ⟨.refl, .refl, .refl, .refl, trivial⟩, by rfl⟩
            rw [hvk, if_neg (by rw [h]; simp)]
            exact .refl
        · have hge : ¬ k < s.accs.length := by simpa using h
          have : k = s.accs.length := by omega
          subst this
          clear h
          repeat' ((conv => whnf); first | refine And.intro (fun h => h) ?_ | refine dcond_t (by assumption) ?_ | refine dcond_f (by assumption) ?_ | (refine dcond_intro ?_ ?_ <;> intro h) | exact .refl | refine And.intro (by kernel_rfl) ?_ | refine And.intro ⟨fun h => h, fun h => h⟩ ?_ | refine .inr ⟨[0, 1], _, _, _, _, _, m_majority_own s ps, by rfl, ⟨.refl, .refl, trivial⟩, ⟨.refl, trivial⟩, ?_⟩ | refine Exists.intro false ?_ | (refine And.intro ?_ ?_; focus (simp; done)) | fail)
          all_goals (conv => whnf)
          · rw [h, cond_true] at hacc
            refine ⟨i + 1, hlt, by simp only []; omega, ?_⟩
            conv => whnf
            exact ⟨⟨.refl, dle_int (by rw [hacc]), dle_lst (by rw [hacc]), .refl, .refl, dle_int (wrap_succ (by omega)), trivial⟩, ⟨.refl, .refl, .refl, trivial⟩, by rfl⟩
          · rw [h, cond_false] at hacc
            refine ⟨i + 1, hlt, by simp only []; omega, ?_⟩
            conv => whnf
            exact ⟨⟨.refl, dle_int (by rw [hacc]), dle_lst (by rw [hacc]), .refl, .refl, dle_int (wrap_succ (by omega)), trivial⟩, ⟨.refl, .refl, .refl, trivial⟩, by rfl⟩
    · have hge : ¬ i < s.accs.length := by simpa using h
      have : i = s.accs.length := by omega
      subst this
      clear h
      repeat' ((conv => whnf); first | refine And.intro (fun h => h) ?_ | refine dcond_t (by assumption) ?_ | refine dcond_f (by assumption) ?_ | (refine dcond_intro ?_ ?_ <;> intro h) | exact .refl | refine And.intro (by kernel_rfl) ?_ | refine And.intro ⟨fun h => h, fun h => h⟩ ?_ | refine Exists.intro false ?_ | (refine And.intro ?_ ?_; focus (simp; done)) | fail)
      all_goals (conv => whnf)
      exact ⟨.refl, ⟨.refl, .refl, .refl, trivial⟩, by rfl⟩
end Go.Proofs.Ytmbniilpgbjcfaa

set_option maxRecDepth 100000
namespace Go.Proofs.Ytmbniilpgbjcfaa
open Go.Lift
def decR (s : Agr) : List Int := bif (winR s.view s.box).2 then (winR s.view s.box).1 else accdR s
def endA (s : Agr) (ps : List Pkt) : Agr × List Pkt :=
  bif decide ((s.dec.length : Int) = 0) && decide (0 < ((decR s).length : Int)) then ({ s with dec := decR s }, ps ++ [pktOf s 0 6 0 0 (decR s)]) else (s, ps)
theorem win_len {v : View} {l : List Bal} {N : Nat} (hc : ∀ b ∈ l, b.cut.length ≤ N) : (winR v l).1.length ≤ N := by
  unfold winR
  cases !boxB v l
  · cases hf : l.find? (fun b => decide (fastB v.mem.length ≤ (votesN l b.cut : Int))) with
    | none => exact Nat.zero_le _
    | some b => exact hc b (List.mem_of_find?_eq_some hf)
  · exact Nat.zero_le _
theorem accAt_len {l : List Rpt} {N : Nat} (hc : ∀ b ∈ l, b.cut.length ≤ N) (m : Int) : ∀ i, i ≤ l.length → (accAt l m i).2.length ≤ N
  | 0, _ => Nat.zero_le _
  | i + 1, h => by
    unfold accAt
    cases decide (m ≤ (vA l (l.getD i rpt0) l.length : Int)) && decide ((accAt l m i).1 < (l.getD i rpt0).rank)
    · exact accAt_len hc m i (by omega)
    · have hi : i < l.length := by omega
      have hg : l.getD i rpt0 = l[i] := by simp [hi]
      simp only [cond_true, hg]
      exact hc _ (List.getElem_mem hi)
theorem accd_len {s : Agr} (hs : SmA s) : (accdR s).length ≤ 1000 := accAt_len hs.accc _ _ (Nat.le_refl _)
theorem gh_junk {d : DV} : ole (.gh [d]) (.gh [.junk]) := .gh rfl fun i a b ha hb => by
  cases i with
  | zero =>
    simp at ha hb
    subst ha hb
    exact .junk
  | succ n => simp at ha
theorem gh_junk2 {a d : DV} : ole (.gh [a, d]) (.gh [.junk, .junk]) := .gh rfl fun i x y hx hy => by
  rcases i with _ | _ | i
  · simp at hx hy
    subst hx hy
    exact .junk
  · simp at hx hy
    subst hx hy
    exact .junk
  · simp at hx
theorem end_yes {s : Agr} {ps : List Pkt} {c : List Int} (h0 : decide (((s.dec.map intE).length : Int) = 0) = true) (hc : decR s = c) (h : decide (0 < ((c.map intE).length : Int)) = true) : endA s ps = ({ s with dec := c }, ps ++ [pktOf s 0 6 0 0 c]) := by
  rw [List.length_map] at h0 h
  simp only [endA, hc, h0, h, Bool.and_self, cond_true]
theorem end_no {s : Agr} {ps : List Pkt} {c : List Int} (hc : decR s = c) (h : decide (0 < ((c.map intE).length : Int)) = false) : endA s ps = (s, ps) := by
  rw [List.length_map] at h
  simp only [endA, hc, h, Bool.and_false, cond_false]
theorem end_old {s : Agr} {ps : List Pkt} (h0 : decide (((s.dec.map intE).length : Int) = 0) = false) : endA s ps = (s, ps) := by
  rw [List.length_map] at h0
  simp only [endA, h0, Bool.false_and, cond_false]
set_option maxHeartbeats 8000000 in
theorem m_end_nil (s : Agr) (hs : SmA s) : RetM Try.prog 62 [.cells 95 (agrE s ++ [.nl])] [.lp 0 0] [false] [.dead] (.tup [.agg (agrE (endA s []).1), .lst 7 ((endA s []).2.map pktE) false]) := by
  have hv := hs.mem
  have e89 := c_fastvote_Winner s.view (by omega) s.box (by have := hs.box; omega) (fun b hb => by have := hs.boxc b hb; omega)
  have e90 := m_accepted_nil s hs
  have hw := win_len (v := s.view) hs.boxc
  have ha := accd_len hs
  have hd1 : (winR s.view s.box).2 = true → decR s = (winR s.view s.box).1 := fun h => by rw [decR, h, cond_true]
  have hd2 : (winR s.view s.box).2 = false → decR s = accdR s := fun h => by rw [decR, h, cond_false]
  generalize winR s.view s.box = W at *
  generalize accdR s = D at *
  have hsend := fun c h => m_send_nil { s with dec := c } 0 6 0 0 c h
  have hy := fun c h0 hc h => @end_yes s [] c h0 hc h
  have hn := fun c hc h => @end_no s [] c hc h
  have ho := fun h => @end_old s [] h
  generalize endA s [] = R at *
  refine retM_of_bodyA (fn := Try.f62) (c := Try.f62.body.getD .skip) hm hT (by kernel_rfl) Try.func62 (by kernel_rfl) (by kernel_rfl) (by kernel_rfl) (by kernel_rfl) (by kernel_rfl) ?_
  repeat' ((conv => whnf); first | refine And.intro (fun h => h) ?_ | refine dcond_t (by assumption) ?_ | refine dcond_f (by assumption) ?_ | (refine dcond_intro ?_ ?_ <;> intro h) | exact .refl | refine And.intro (by kernel_rfl) ?_ | refine And.intro ⟨fun h => h, fun h => h⟩ ?_ | refine .inl ⟨_, _, DleAll_refl _, e89, ?_⟩ | refine ⟨_, _, DleAll_refl _, fun _ => e89, ?_⟩ | refine ⟨_, _, DleAll_refl _, e89, ?_⟩ | refine .inr ⟨[0], _, _, _, _, _, e90, by rfl, ⟨.refl, trivial⟩, ⟨.refl, trivial⟩, ?_⟩ | refine .inl ⟨_, _, DleAll_refl _, c_agreement_clone _ (by omega), ?_⟩ | refine ⟨_, _, DleAll_refl _, fun _ => c_agreement_clone _ (by omega), ?_⟩ | refine ⟨_, _, DleAll_refl _, c_agreement_clone _ (by omega), ?_⟩ | refine .inr ⟨[0], _, _, _, _, _, hsend _ (by omega), by rfl, ⟨.refl, trivial⟩, ⟨.refl, .refl, .refl, .refl, .refl, .refl, trivial⟩, ?_⟩ | refine Exists.intro false ?_ | (refine And.intro ?_ ?_; focus (simp; done)) | fail)
  all_goals (conv => whnf)
  · rename_i h0 hw2
    rw [hy D h0 (hd2 (by simpa using hw2)) h]
    refine ⟨[.shut 3], ?_⟩
    conv => whnf
    exact ⟨.refl, ⟨.dead, gh_junk, trivial⟩, by rfl⟩
  · rename_i h0 hw2
    rw [hn D (hd2 (by simpa using hw2)) h]
    refine ⟨[], ?_⟩
    conv => whnf
    exact ⟨dle_tupA ⟨.refl, .nl, trivial⟩, ⟨.dead, gh_junk, trivial⟩, by rfl⟩
  · rename_i h0 hw2
    rw [hy W.1 h0 (hd1 (by simpa using hw2)) h]
    refine ⟨[.shut 3], ?_⟩
    conv => whnf
    exact ⟨.refl, ⟨.dead, gh_junk, trivial⟩, by rfl⟩
  · rename_i h0 hw2
    rw [hn W.1 (hd1 (by simpa using hw2)) h]
    refine ⟨[], ?_⟩
    conv => whnf
    exact ⟨dle_tupA ⟨.refl, .nl, trivial⟩, ⟨.dead, gh_junk, trivial⟩, by rfl⟩
  · rw [ho h]
    refine ⟨[], ?_⟩
    conv => whnf
    exact ⟨dle_tupA ⟨.refl, .nl, trivial⟩, ⟨.dead, gh_junk, trivial⟩, by rfl⟩
set_option maxHeartbeats 8000000 in
theorem m_end_own (s : Agr) (hs : SmA s) (ps : List Pkt) (hps : ps.length ≤ 100) : RetM Try.prog 62 [.cells 95 (agrE s ++ [.own 1]), .row 48 7 (ps.map pktE)] [.lp 0 0] [false, false] [.dead, .dead] (.tup [.agg (agrE (endA s ps).1), .lst 7 ((endA s ps).2.map pktE) false]) := by
  have hv := hs.mem
  have e89 := c_fastvote_Winner s.view (by omega) s.box (by have := hs.box; omega) (fun b hb => by have := hs.boxc b hb; omega)
  have e90 := m_accepted_own s hs ps
  have hw := win_len (v := s.view) hs.boxc
  have ha := accd_len hs
  have hd1 : (winR s.view s.box).2 = true → decR s = (winR s.view s.box).1 := fun h => by rw [decR, h, cond_true]
  have hd2 : (winR s.view s.box).2 = false → decR s = accdR s := fun h => by rw [decR, h, cond_false]
  generalize winR s.view s.box = W at *
  generalize accdR s = D at *
  have hsend := fun c h => m_send_own { s with dec := c } ps hps 0 6 0 0 c h
  have hy := fun c h0 hc h => @end_yes s ps c h0 hc h
  have hn := fun c hc h => @end_no s ps c hc h
  have ho := fun h => @end_old s ps h
  generalize endA s ps = R at *
  refine retM_of_bodyA (fn := Try.f62) (c := Try.f62.body.getD .skip) hm hT (by kernel_rfl) Try.func62 (by kernel_rfl) (by kernel_rfl) (by kernel_rfl) (by kernel_rfl) (by kernel_rfl) ?_
  repeat' ((conv => whnf); first | refine And.intro (fun h => h) ?_ | refine dcond_t (by assumption) ?_ | refine dcond_f (by assumption) ?_ | (refine dcond_intro ?_ ?_ <;> intro h) | exact .refl | refine And.intro (by kernel_rfl) ?_ | refine And.intro ⟨fun h => h, fun h => h⟩ ?_ | refine .inl ⟨_, _, DleAll_refl _, e89, ?_⟩ | refine ⟨_, _, DleAll_refl _, fun _ => e89, ?_⟩ | refine ⟨_, _, DleAll_refl _, e89, ?_⟩ | refine .inr ⟨[0, 1], _, _, _, _, _, e90, by rfl, ⟨.refl, .refl, trivial⟩, ⟨.refl, trivial⟩, ?_⟩ | refine .inl ⟨_, _, DleAll_refl _, c_agreement_clone _ (by omega), ?_⟩ | refine ⟨_, _, DleAll_refl _, fun _ => c_agreement_clone _ (by omega), ?_⟩ | refine ⟨_, _, DleAll_refl _, c_agreement_clone _ (by omega), ?_⟩ | refine .inr ⟨[0, 1], _, _, _, _, _, hsend _ (by omega), by rfl, ⟨.refl, .refl, trivial⟩, ⟨.refl, .refl, .refl, .refl, .refl, .refl, trivial⟩, ?_⟩ | refine Exists.intro false ?_ | (refine And.intro ?_ ?_; focus (simp; done)) | fail)
  all_goals (conv => whnf)
  · rename_i h0 hw2
    rw [hy D h0 (hd2 (by simpa using hw2)) h]
    refine ⟨[.shut 3], ?_⟩
    conv => whnf
    exact ⟨.refl, ⟨.dead, .dead, gh_junk2, trivial⟩, by rfl⟩
  · rename_i h0 hw2
    rw [hn D (hd2 (by simpa using hw2)) h]
    refine ⟨[.shut 3], ?_⟩
    conv => whnf
    exact ⟨.refl, ⟨.dead, .dead, gh_junk2, trivial⟩, by rfl⟩
  · rename_i h0 hw2
    rw [hy W.1 h0 (hd1 (by simpa using hw2)) h]
    refine ⟨[.shut 3], ?_⟩
    conv => whnf
    exact ⟨.refl, ⟨.dead, .dead, gh_junk2, trivial⟩, by rfl⟩
  · rename_i h0 hw2
    rw [hn W.1 (hd1 (by simpa using hw2)) h]
    refine ⟨[.shut 3], ?_⟩
    conv => whnf
    exact ⟨.refl, ⟨.dead, .dead, gh_junk2, trivial⟩, by rfl⟩
  · rw [ho h]
    refine ⟨[.shut 3], ?_⟩
    conv => whnf
    exact ⟨.refl, ⟨.dead, .dead, gh_junk2, trivial⟩, by rfl⟩
end Go.Proofs.Ytmbniilpgbjcfaa

set_option maxRecDepth 100000
namespace Go.Proofs.Ytmbniilpgbjcfaa
open Go.Lift
theorem c_idle_own (s : Agr) (ps : List Pkt) : RetM Try.prog 92 [.cells 95 (agrE s ++ [.own 1]), .row 48 7 (ps.map pktE)] [.lp 0 0] [true, true] [.cells 95 (agrE (idleA s) ++ [.own 1]), .row 48 7 (ps.map pktE)] (.tup []) := by
  refine retM_of_bodyA (fn := Try.f92) (c := Try.f92.body.getD .skip) hm hT (by kernel_rfl) Try.func92 (by kernel_rfl) (by kernel_rfl) (by kernel_rfl) (by kernel_rfl) (by kernel_rfl) ?_
  repeat' ((conv => whnf); first | refine And.intro (fun h => h) ?_ | refine dcond_t (by assumption) ?_ | refine dcond_f (by assumption) ?_ | (refine dcond_intro ?_ ?_ <;> intro h) | exact .refl | refine And.intro (by kernel_rfl) ?_ | refine And.intro ⟨fun h => h, fun h => h⟩ ?_ | refine Exists.intro false ?_ | (refine And.intro ?_ ?_; focus (simp; done)) | fail)
  all_goals (conv => whnf)
  all_goals (refine ⟨[], ?_⟩)
  all_goals (conv => whnf)
  all_goals (exact ⟨.refl, ⟨ole_cellsA ⟨.refl, .refl, .refl, .refl, .refl, .refl, .refl, .refl, .refl, .refl, .nl, .nl, .refl, .refl, .refl, .refl, trivial⟩, .refl, .refl, trivial⟩, by rfl⟩)
def prepA (s : Agr) (m : Msg) : Agr × List Pkt :=
  (bif decide (s.rank < m.rank) && !decide (s.phase = 0) then idleA (bif (prepR s.acc m.rank).2.2 then { s with acc := (prepR s.acc m.rank).1 } else s) else (bif (prepR s.acc m.rank).2.2 then { s with acc := (prepR s.acc m.rank).1 } else s),
   bif (prepR s.acc m.rank).2.2 then [pktOf s m.src 3 m.rank (prepR s.acc m.rank).2.1.rank (prepR s.acc m.rank).2.1.cut] else [])
set_option maxHeartbeats 8000000 in
theorem m_prepare (s : Agr) (hs : SmA s) (m : Msg) : RetM Try.prog 63 [.cells 95 (agrE s ++ [.nl])] [.lp 0 0, .agg (msgE m)] [true] [.cells 95 (agrE (prepA s m).1 ++ [.own 2]), .dead, .row 48 7 ((prepA s m).2.map pktE)] (.tup []) := by
  have e1 := c_paxos_OnPrepare s.acc (by have := hs.acut; omega) m.rank
  have hpl := (prep_len (rank := m.rank) hs.acut).2
  obtain ⟨R, hR⟩ : ∃ R, R = prepA s m := ⟨_, rfl⟩
  rw [← hR]
  unfold prepA at hR
  generalize prepR s.acc m.rank = X at *
  have e2 := m_send_nil { s with acc := X.1 } m.src 3 m.rank X.2.1.rank X.2.1.cut (by omega)
  have e3 := c_idle_own { s with acc := X.1 } [pktOf s m.src 3 m.rank X.2.1.rank X.2.1.cut]
  have e4 := c_idle s
  refine retM_of_bodyA (fn := Try.f63) (c := Try.f63.body.getD .skip) hm hT (by kernel_rfl) Try.func63 (by kernel_rfl) (by kernel_rfl) (by kernel_rfl) (by kernel_rfl) (by kernel_rfl) ?_
  repeat' ((conv => whnf); first | refine And.intro (fun h => h) ?_ | refine dcond_t (by assumption) ?_ | refine dcond_f (by assumption) ?_ | (refine dcond_intro ?_ ?_ <;> intro h) | exact .refl | refine And.intro (by kernel_rfl) ?_ | refine And.intro ⟨fun h => h, fun h => h⟩ ?_ | refine .inl ⟨_, _, DleAll_refl _, e1, ?_⟩ | refine ⟨_, _, DleAll_refl _, fun _ => e1, ?_⟩ | refine ⟨_, _, DleAll_refl _, e1, ?_⟩ | refine .inr ⟨[0], _, _, _, _, _, e2, by rfl, ⟨.refl, trivial⟩, ⟨.refl, .refl, .refl, .refl, .refl, .refl, trivial⟩, ?_⟩ | refine .inr ⟨[0, 4], _, _, _, _, _, e3, by rfl, ⟨.refl, .refl, trivial⟩, ⟨.refl, trivial⟩, ?_⟩ | refine .inr ⟨[0, 5], _, _, _, _, _, e3, by rfl, ⟨.refl, .refl, trivial⟩, ⟨.refl, trivial⟩, ?_⟩ | refine .inr ⟨[0, 6], _, _, _, _, _, e3, by rfl, ⟨.refl, .refl, trivial⟩, ⟨.refl, trivial⟩, ?_⟩ | refine .inr ⟨[0, 7], _, _, _, _, _, e3, by rfl, ⟨.refl, .refl, trivial⟩, ⟨.refl, trivial⟩, ?_⟩ | refine .inr ⟨[0], _, _, _, _, _, e4, by rfl, ⟨.refl, trivial⟩, ⟨.refl, trivial⟩, ?_⟩ | refine Exists.intro false ?_ | (refine And.intro ?_ ?_; focus (simp; done)) | fail)
  all_goals (conv => whnf)
  all_goals simp only [List.length_map] at *
  all_goals (simp only [*, cond_true, cond_false] at hR)
  all_goals subst hR
  · first | (refine ⟨[.xchg 2 3], ?_⟩; (conv => whnf); exact ⟨.refl, ⟨.refl, .refl, .refl, trivial⟩, by rfl⟩) | (refine ⟨[.xchg 2 4], ?_⟩; (conv => whnf); exact ⟨.refl, ⟨.refl, .refl, .refl, trivial⟩, by rfl⟩) | (refine ⟨[.xchg 2 5], ?_⟩; (conv => whnf); exact ⟨.refl, ⟨.refl, .refl, .refl, trivial⟩, by rfl⟩) | (refine ⟨[.xchg 2 6], ?_⟩; (conv => whnf); exact ⟨.refl, ⟨.refl, .refl, .refl, trivial⟩, by rfl⟩) | (refine ⟨[.xchg 2 7], ?_⟩; (conv => whnf); exact ⟨.refl, ⟨.refl, .refl, .refl, trivial⟩, by rfl⟩) | (refine ⟨[.xchg 2 8], ?_⟩; (conv => whnf); exact ⟨.refl, ⟨.refl, .refl, .refl, trivial⟩, by rfl⟩) | fail
  · first | (refine ⟨[.xchg 2 3], ?_⟩; (conv => whnf); exact ⟨.refl, ⟨.refl, .refl, .refl, trivial⟩, by rfl⟩) | (refine ⟨[.xchg 2 4], ?_⟩; (conv => whnf); exact ⟨.refl, ⟨.refl, .refl, .refl, trivial⟩, by rfl⟩) | (refine ⟨[.xchg 2 5], ?_⟩; (conv => whnf); exact ⟨.refl, ⟨.refl, .refl, .refl, trivial⟩, by rfl⟩) | (refine ⟨[.xchg 2 6], ?_⟩; (conv => whnf); exact ⟨.refl, ⟨.refl, .refl, .refl, trivial⟩, by rfl⟩) | (refine ⟨[.xchg 2 7], ?_⟩; (conv => whnf); exact ⟨.refl, ⟨.refl, .refl, .refl, trivial⟩, by rfl⟩) | (refine ⟨[.xchg 2 8], ?_⟩; (conv => whnf); exact ⟨.refl, ⟨.refl, .refl, .refl, trivial⟩, by rfl⟩) | fail
  · first | (refine ⟨[.cell 0 15 48 7, .xchg 2 2], ?_⟩; (conv => whnf); exact ⟨.refl, ⟨.refl, .refl, .refl, trivial⟩, by rfl⟩) | (refine ⟨[.cell 0 15 48 7, .xchg 2 3], ?_⟩; (conv => whnf); exact ⟨.refl, ⟨.refl, .refl, .refl, trivial⟩, by rfl⟩) | (refine ⟨[.cell 0 15 48 7, .xchg 2 4], ?_⟩; (conv => whnf); exact ⟨.refl, ⟨.refl, .refl, .refl, trivial⟩, by rfl⟩) | (refine ⟨[.cell 0 15 48 7, .xchg 2 5], ?_⟩; (conv => whnf); exact ⟨.refl, ⟨.refl, .refl, .refl, trivial⟩, by rfl⟩) | (refine ⟨[.cell 0 15 48 7, .xchg 2 6], ?_⟩; (conv => whnf); exact ⟨.refl, ⟨.refl, .refl, .refl, trivial⟩, by rfl⟩) | fail
  · first | (refine ⟨[.cell 0 15 48 7, .xchg 2 2], ?_⟩; (conv => whnf); exact ⟨.refl, ⟨.refl, .refl, .refl, trivial⟩, by rfl⟩) | (refine ⟨[.cell 0 15 48 7, .xchg 2 3], ?_⟩; (conv => whnf); exact ⟨.refl, ⟨.refl, .refl, .refl, trivial⟩, by rfl⟩) | (refine ⟨[.cell 0 15 48 7, .xchg 2 4], ?_⟩; (conv => whnf); exact ⟨.refl, ⟨.refl, .refl, .refl, trivial⟩, by rfl⟩) | (refine ⟨[.cell 0 15 48 7, .xchg 2 5], ?_⟩; (conv => whnf); exact ⟨.refl, ⟨.refl, .refl, .refl, trivial⟩, by rfl⟩) | (refine ⟨[.cell 0 15 48 7, .xchg 2 6], ?_⟩; (conv => whnf); exact ⟨.refl, ⟨.refl, .refl, .refl, trivial⟩, by rfl⟩) | fail
end Go.Proofs.Ytmbniilpgbjcfaa

set_option maxRecDepth 100000
namespace Go.Proofs.Ytmbniilpgbjcfaa
open Go.Lift
theorem add_mem {v : View} {l : List Rpt} {r x : Rpt} (h : x ∈ (addR v l r).1) : x = r ∨ x ∈ l := by
  unfold addR at h
  cases h1 : repsB v l with
  | false => simp [h1] at h
  | true =>
    cases h2 : repsB v (insR l r) with
    | false => simp [h1, h2] at h; exact .inr h
    | true => simp [h1, h2] at h; exact insR_mem h
theorem add_reps {v : View} {l : List Rpt} {r : Rpt} (h : repsB v l = true) : repsB v (addR v l r).1 = true := by
  unfold addR
  cases h2 : repsB v (insR l r) with
  | false => simp [h]
  | true => simp [h, h2]
theorem add_len {v : View} {l : List Rpt} {r : Rpt} : (addR v l r).1.length ≤ l.length + 1 := by
  have := insR_len l r
  unfold addR
  cases repsB v l <;> cases repsB v (insR l r) <;> simp <;> omega
theorem of_at {l : List Rpt} {x : Int} (h : decide (0 ≤ ofB l x) = true) : (l.getD (ofB l x).toNat rpt0).mem = x := by
  have h := of_decide_eq_true h
  unfold ofB at h ⊢
  rcases hf : (List.range l.length).find? (fun i => decide ((l.getD i rpt0).mem = x)) with _ | n
  · simp only [findB, hf] at h
    omega
  · have hn := List.find?_some hf
    simp only [findB, hf, Int.toNat_natCast]
    exact of_decide_eq_true hn
theorem enter_mem {v : View} {l : List Rpt} {r x : Rpt} (h : x ∈ enterR v l r) : x = r ∨ x ∈ l := by
  unfold enterR at h
  cases h1 : decide (0 ≤ ofB l r.mem)
  · rw [h1] at h
    exact add_mem h
  · rw [h1, cond_true] at h
    cases h2 : decide ((l.getD (ofB l r.mem).toNat rpt0).rank < r.rank)
    · rw [h2] at h
      exact .inr h
    · rw [h2] at h
      rcases List.mem_or_eq_of_mem_set h with h | h
      · exact .inr h
      · exact .inl h
theorem enter_len {v : View} {l : List Rpt} {r : Rpt} : (enterR v l r).length ≤ l.length + 1 := by
  unfold enterR
  have := @add_len v l r
  cases decide (0 ≤ ofB l r.mem)
  · exact this
  · cases decide ((l.getD (ofB l r.mem).toNat rpt0).rank < r.rank)
    · simp
    · simp
theorem set_reps {v : View} (hv : viewB v = true) {l : List Rpt} {r : Rpt} (h : repsB v l = true) (hr : vrB v r = true) {k : Nat} (hk : k < l.length) (he : l[k].mem = r.mem) : repsB v (l.set k r) = true := by
  obtain ⟨h1, h2⟩ := (reps_iff hv).1 h
  refine (reps_iff hv).2 ⟨fun x hx => ?_, ?_⟩
  · rcases List.mem_or_eq_of_mem_set hx with hx | rfl
    · exact h1 x hx
    · exact hr
  · rw [List.pairwise_iff_getElem] at h2 ⊢
    intro i j hi hj hij
    rw [List.length_set] at hi hj
    have := h2 i j hi hj hij
    rw [List.getElem_set, List.getElem_set]
    split <;> split
    · omega
    · rename_i e _
      subst e
      omega
    · rename_i e
      subst e
      omega
    · exact this
theorem enter_reps {v : View} (hv : viewB v = true) {l : List Rpt} {r : Rpt} (h : repsB v l = true) (hr : vrB v r = true) : repsB v (enterR v l r) = true := by
  unfold enterR
  cases h1 : decide (0 ≤ ofB l r.mem)
  · exact add_reps h
  · cases decide ((l.getD (ofB l r.mem).toNat rpt0).rank < r.rank)
    · exact h
    · obtain ⟨_, hk⟩ := ofr_ix h1
      have := of_at h1
      rw [show l.getD (ofB l r.mem).toNat rpt0 = l[(ofB l r.mem).toNat] by simp [hk]] at this
      exact set_reps hv h hr hk this
theorem m_send_sq (s : Agr) (to kind rank last : Int) (cut : List Int) (hc : cut.length ≤ 1000000) :
    RetM Try.prog 61 [.cells 95 (agrE s ++ [.nl])] [.lp 0 0, i64 to, i64 kind, i64 rank, i64 last, .lst 1 (cut.map intE) false] [true] [.cells 95 (agrE s ++ [.own 1]), .row 48 7 [pktE (pktOf s to kind rank last cut)]] (.tup []) :=
  (m_send_nil s to kind rank last cut hc).squeeze (L1 := [.cells 95 (agrE s ++ [.own 2])]) (L2 := [.row 48 7 [pktE (pktOf s to kind rank last cut)]]) (Nat.le_refl _)
def promA (s : Agr) (m : Msg) : Agr × List Pkt :=
  bif !decide (s.phase = 1) || !decide (m.rank = s.rank) then (s, [])
  else (advA { s with reps := (addR s.view s.reps ⟨m.src, m.last, m.cut⟩).1 },
    bif decide ((advA { s with reps := (addR s.view s.reps ⟨m.src, m.last, m.cut⟩).1 }).phase = 2) then [pktOf (advA { s with reps := (addR s.view s.reps ⟨m.src, m.last, m.cut⟩).1 }) 0 4 (advA { s with reps := (addR s.view s.reps ⟨m.src, m.last, m.cut⟩).1 }).rank 0 (advA { s with reps := (addR s.view s.reps ⟨m.src, m.last, m.cut⟩).1 }).cho] else [])
theorem adv_cho {s : Agr} (hs : SmA s) : (advA s).cho.length ≤ 1000 := by
  unfold advA
  cases !decide (s.phase = 1) || decide ((s.reps.length : Int) < majB s.view.mem.length)
  · cases (acceptR s.acc s.rank (chooseR s.view s.reps s.prop).1).2
    · exact Nat.zero_le _
    · exact choose_len hs.repc hs.prop
  · exact hs.cho
set_option maxHeartbeats 8000000 in
theorem m_promise (s : Agr) (hs : SmA s) (hok : repsB s.view s.accs = true) (hrl : s.reps.length ≤ 900) (m : Msg) (hc : m.cut.length ≤ 1000) : RetM Try.prog 64 [.cells 95 (agrO s 1 ++ [.nl]), .row 73 3 (s.accs.map rptE)] [.lp 0 0, .agg (msgE m)] [true, false] [.cells 95 (agrE (promA s m).1 ++ [.own 3]), .gone, .dead, .row 48 7 ((promA s m).2.map pktE)] (.tup []) := by
  have e1 := c_paxos_AddReport s.view (by have := hs.mem; omega) s.reps (by have := hs.reps; omega) (fun b hb => by have := hs.repc b hb; omega) ⟨m.src, m.last, m.cut⟩ (by simp only []; omega)
  have hl1 := @add_len s.view s.reps ⟨m.src, m.last, m.cut⟩
  have hl2 : ∀ x ∈ (addR s.view s.reps ⟨m.src, m.last, m.cut⟩).1, x.cut.length ≤ 1000 := fun x hx => by
    rcases add_mem hx with rfl | hx
    · exact hc
    · exact hs.repc x hx
  obtain ⟨R, hR⟩ : ∃ R, R = promA s m := ⟨_, rfl⟩
  rw [← hR]
  unfold promA at hR
  generalize addR s.view s.reps ⟨m.src, m.last, m.cut⟩ = X at *
  have hs2 : SmA { s with reps := X.1 } := ⟨hs.mem, hs.acut, hs.prop, hs.box, hs.boxc, (by simp only []; omega), hl2, hs.cho, hs.accs, hs.accc, hs.dec⟩
  have e2 := m_advance _ hs2 hok
  have hcl := adv_cho hs2
  generalize advA { s with reps := X.1 } = A at *
  have e3 := m_send_sq A 0 4 A.rank 0 A.cho (by omega)
  refine retM_of_bodyA (fn := Try.f64) (c := Try.f64.body.getD .skip) hm hT (by kernel_rfl) Try.func64 (by kernel_rfl) (by kernel_rfl) (by kernel_rfl) (by kernel_rfl) (by kernel_rfl) ?_
  repeat' ((conv => whnf); first | refine And.intro (fun h => h) ?_ | refine dcond_t (by assumption) ?_ | refine dcond_f (by assumption) ?_ | (refine dcond_intro ?_ ?_ <;> intro h) | exact .refl | refine And.intro (by kernel_rfl) ?_ | refine And.intro ⟨fun h => h, fun h => h⟩ ?_ | refine .inl ⟨_, _, DleAll_refl _, e1, ?_⟩ | refine ⟨_, _, DleAll_refl _, fun _ => e1, ?_⟩ | refine ⟨_, _, DleAll_refl _, e1, ?_⟩ | refine .inr ⟨[0, 1], _, _, _, _, _, e2, by rfl, ⟨.refl, .refl, trivial⟩, ⟨.refl, trivial⟩, ?_⟩ | refine .inr ⟨[0], _, _, _, _, _, e3, by rfl, ⟨.refl, trivial⟩, ⟨.refl, .refl, .refl, .refl, .refl, .refl, trivial⟩, ?_⟩ | refine Exists.intro false ?_ | (refine And.intro ?_ ?_; focus (simp; done)) | fail)
  all_goals (conv => whnf)
  all_goals simp only [*, cond_true, cond_false] at hR
  all_goals subst hR
  · first | (refine ⟨[.shutc 0 12, .bury 1, .cell 0 15 48 7, .xchg 3 2], ?_⟩; (conv => whnf); exact ⟨.refl, ⟨.refl, .refl, gh2, .refl, trivial⟩, by rfl⟩) | (refine ⟨[.shutc 0 12, .bury 1, .cell 0 15 48 7, .xchg 3 3], ?_⟩; (conv => whnf); exact ⟨.refl, ⟨.refl, .refl, gh2, .refl, trivial⟩, by rfl⟩) | (refine ⟨[.shutc 0 12, .bury 1, .cell 0 15 48 7, .xchg 3 4], ?_⟩; (conv => whnf); exact ⟨.refl, ⟨.refl, .refl, gh2, .refl, trivial⟩, by rfl⟩) | (refine ⟨[.shutc 0 12, .bury 1, .cell 0 15 48 7, .xchg 3 5], ?_⟩; (conv => whnf); exact ⟨.refl, ⟨.refl, .refl, gh2, .refl, trivial⟩, by rfl⟩) | (refine ⟨[.shutc 0 12, .bury 1, .cell 0 15 48 7, .xchg 3 6], ?_⟩; (conv => whnf); exact ⟨.refl, ⟨.refl, .refl, gh2, .refl, trivial⟩, by rfl⟩) | (refine ⟨[.shutc 0 12, .bury 1, .cell 0 15 48 7, .xchg 3 7], ?_⟩; (conv => whnf); exact ⟨.refl, ⟨.refl, .refl, gh2, .refl, trivial⟩, by rfl⟩) | (refine ⟨[.shutc 0 12, .bury 1, .cell 0 15 48 7, .xchg 3 8], ?_⟩; (conv => whnf); exact ⟨.refl, ⟨.refl, .refl, gh2, .refl, trivial⟩, by rfl⟩) | fail
  · first | (refine ⟨[.xchg 3 2], ?_⟩; (conv => whnf); exact ⟨.refl, ⟨.refl, .refl, gh2, .refl, trivial⟩, by rfl⟩) | (refine ⟨[.xchg 3 3], ?_⟩; (conv => whnf); exact ⟨.refl, ⟨.refl, .refl, gh2, .refl, trivial⟩, by rfl⟩) | (refine ⟨[.xchg 3 4], ?_⟩; (conv => whnf); exact ⟨.refl, ⟨.refl, .refl, gh2, .refl, trivial⟩, by rfl⟩) | (refine ⟨[.xchg 3 5], ?_⟩; (conv => whnf); exact ⟨.refl, ⟨.refl, .refl, gh2, .refl, trivial⟩, by rfl⟩) | (refine ⟨[.xchg 3 6], ?_⟩; (conv => whnf); exact ⟨.refl, ⟨.refl, .refl, gh2, .refl, trivial⟩, by rfl⟩) | (refine ⟨[.xchg 3 7], ?_⟩; (conv => whnf); exact ⟨.refl, ⟨.refl, .refl, gh2, .refl, trivial⟩, by rfl⟩) | (refine ⟨[.xchg 3 8], ?_⟩; (conv => whnf); exact ⟨.refl, ⟨.refl, .refl, gh2, .refl, trivial⟩, by rfl⟩) | fail
  · first | (refine ⟨[.cell 0 15 48 7, .xchg 3 2], ?_⟩; (conv => whnf); exact ⟨.refl, ⟨.refl, .refl, gh2, .refl, trivial⟩, by rfl⟩) | (refine ⟨[.cell 0 15 48 7, .xchg 3 3], ?_⟩; (conv => whnf); exact ⟨.refl, ⟨.refl, .refl, gh2, .refl, trivial⟩, by rfl⟩) | (refine ⟨[.cell 0 15 48 7, .xchg 3 4], ?_⟩; (conv => whnf); exact ⟨.refl, ⟨.refl, .refl, gh2, .refl, trivial⟩, by rfl⟩) | (refine ⟨[.cell 0 15 48 7, .xchg 3 5], ?_⟩; (conv => whnf); exact ⟨.refl, ⟨.refl, .refl, gh2, .refl, trivial⟩, by rfl⟩) | (refine ⟨[.cell 0 15 48 7, .xchg 3 6], ?_⟩; (conv => whnf); exact ⟨.refl, ⟨.refl, .refl, gh2, .refl, trivial⟩, by rfl⟩) | (refine ⟨[.cell 0 15 48 7, .xchg 3 7], ?_⟩; (conv => whnf); exact ⟨.refl, ⟨.refl, .refl, gh2, .refl, trivial⟩, by rfl⟩) | (refine ⟨[.cell 0 15 48 7, .xchg 3 8], ?_⟩; (conv => whnf); exact ⟨.refl, ⟨.refl, .refl, gh2, .refl, trivial⟩, by rfl⟩) | fail
end Go.Proofs.Ytmbniilpgbjcfaa

set_option maxRecDepth 100000
namespace Go.Proofs.Ytmbniilpgbjcfaa
open Go.Lift
def acctA (s : Agr) (m : Msg) : Agr × List Pkt :=
  bif (acceptR s.acc m.rank m.cut).2 then ({ s with acc := (acceptR s.acc m.rank m.cut).1, accs := enterR s.view (enterR s.view s.accs ⟨m.src, m.rank, m.cut⟩) ⟨s.self, m.rank, m.cut⟩ }, [pktOf s 0 5 m.rank 0 m.cut])
  else ({ s with accs := enterR s.view s.accs ⟨m.src, m.rank, m.cut⟩ }, [])
set_option maxHeartbeats 8000000 in
theorem m_accept (s : Agr) (hs : SmA s) (hv : viewB s.view = true) (hok : repsB s.view s.accs = true) (hal : s.accs.length ≤ 900) (m : Msg) (hc : m.cut.length ≤ 1000) (hr : vrB s.view ⟨m.src, m.rank, m.cut⟩ = true) : RetM Try.prog 65 [.cells 95 (agrO s 1 ++ [.nl]), .row 73 3 (s.accs.map rptE)] [.lp 0 0, .agg (msgE m)] [true, false] [.cells 95 (agrE (acctA s m).1 ++ [.own 3]), .gone, .dead, .row 48 7 ((acctA s m).2.map pktE)] (.tup []) := by
  have e1 := m_enter s hs hok ⟨m.src, m.rank, m.cut⟩ hc
  have e2 := c_paxos_OnAccept s.acc (by have := hs.acut; omega) m.rank m.cut (by omega)
  have hl1 := @enter_len s.view s.accs ⟨m.src, m.rank, m.cut⟩
  have hl2 : ∀ x ∈ enterR s.view s.accs ⟨m.src, m.rank, m.cut⟩, x.cut.length ≤ 1000 := fun x hx => by
    rcases enter_mem hx with rfl | hx
    · exact hc
    · exact hs.accc x hx
  have hok2 := enter_reps hv hok hr
  have hal2 := accept_len (rank := m.rank) hs.acut hc
  obtain ⟨R, hR⟩ : ∃ R, R = acctA s m := ⟨_, rfl⟩
  rw [← hR]
  unfold acctA at hR
  generalize acceptR s.acc m.rank m.cut = X at *
  generalize enterR s.view s.accs ⟨m.src, m.rank, m.cut⟩ = E at *
  have hs2 : SmA { s with acc := X.1, accs := E } := ⟨hs.mem, hal2, hs.prop, hs.box, hs.boxc, hs.reps, hs.repc, hs.cho, (by simp only []; omega), hl2, hs.dec⟩
  have e3 := m_enterS _ hs2 hok2 ⟨s.self, m.rank, m.cut⟩ hc
  have e4 := m_send_sq { s with acc := X.1, accs := enterR s.view E ⟨s.self, m.rank, m.cut⟩ } 0 5 m.rank 0 m.cut (by omega)
  refine retM_of_bodyA (fn := Try.f65) (c := Try.f65.body.getD .skip) hm hT (by kernel_rfl) Try.func65 (by kernel_rfl) (by kernel_rfl) (by kernel_rfl) (by kernel_rfl) (by kernel_rfl) ?_
  repeat' ((conv => whnf); first | refine And.intro (fun h => h) ?_ | refine dcond_t (by assumption) ?_ | refine dcond_f (by assumption) ?_ | (refine dcond_intro ?_ ?_ <;> intro h) | exact .refl | refine And.intro (by kernel_rfl) ?_ | refine And.intro ⟨fun h => h, fun h => h⟩ ?_ | refine .inr ⟨[0, 1], _, _, _, _, _, e1, by rfl, ⟨.refl, .refl, trivial⟩, ⟨.refl, .refl, trivial⟩, ?_⟩ | refine .inl ⟨_, _, DleAll_refl _, e2, ?_⟩ | refine ⟨_, _, DleAll_refl _, fun _ => e2, ?_⟩ | refine ⟨_, _, DleAll_refl _, e2, ?_⟩ | refine .inr ⟨[0, 3], _, _, _, _, _, e3, by rfl, ⟨.refl, .refl, trivial⟩, ⟨.refl, .refl, trivial⟩, ?_⟩ | refine .inr ⟨[0, 4], _, _, _, _, _, e3, by rfl, ⟨.refl, .refl, trivial⟩, ⟨.refl, .refl, trivial⟩, ?_⟩ | refine .inr ⟨[0, 5], _, _, _, _, _, e3, by rfl, ⟨.refl, .refl, trivial⟩, ⟨.refl, .refl, trivial⟩, ?_⟩ | refine .inr ⟨[0, 6], _, _, _, _, _, e3, by rfl, ⟨.refl, .refl, trivial⟩, ⟨.refl, .refl, trivial⟩, ?_⟩ | refine .inr ⟨[0, 7], _, _, _, _, _, e3, by rfl, ⟨.refl, .refl, trivial⟩, ⟨.refl, .refl, trivial⟩, ?_⟩ | refine .inr ⟨[0, 8], _, _, _, _, _, e3, by rfl, ⟨.refl, .refl, trivial⟩, ⟨.refl, .refl, trivial⟩, ?_⟩ | refine .inr ⟨[0, 9], _, _, _, _, _, e3, by rfl, ⟨.refl, .refl, trivial⟩, ⟨.refl, .refl, trivial⟩, ?_⟩ | refine .inr ⟨[0], _, _, _, _, _, e4, by rfl, ⟨.refl, trivial⟩, ⟨.refl, .refl, .refl, .refl, .refl, .refl, trivial⟩, ?_⟩ | refine Exists.intro false ?_ | (refine And.intro ?_ ?_; focus (simp; done)) | fail)
  all_goals (conv => whnf)
  all_goals simp only [*, cond_true, cond_false] at hR
  all_goals subst hR
  · first | (refine ⟨[.xchg 3 2], ?_⟩; (conv => whnf); exact ⟨.refl, ⟨.refl, .refl, gh2, .refl, trivial⟩, by rfl⟩) | (refine ⟨[.xchg 3 3], ?_⟩; (conv => whnf); exact ⟨.refl, ⟨.refl, .refl, gh2, .refl, trivial⟩, by rfl⟩) | (refine ⟨[.xchg 3 4], ?_⟩; (conv => whnf); exact ⟨.refl, ⟨.refl, .refl, gh2, .refl, trivial⟩, by rfl⟩) | (refine ⟨[.xchg 3 5], ?_⟩; (conv => whnf); exact ⟨.refl, ⟨.refl, .refl, gh2, .refl, trivial⟩, by rfl⟩) | (refine ⟨[.xchg 3 6], ?_⟩; (conv => whnf); exact ⟨.refl, ⟨.refl, .refl, gh2, .refl, trivial⟩, by rfl⟩) | (refine ⟨[.xchg 3 7], ?_⟩; (conv => whnf); exact ⟨.refl, ⟨.refl, .refl, gh2, .refl, trivial⟩, by rfl⟩) | (refine ⟨[.xchg 3 8], ?_⟩; (conv => whnf); exact ⟨.refl, ⟨.refl, .refl, gh2, .refl, trivial⟩, by rfl⟩) | (refine ⟨[.xchg 3 9], ?_⟩; (conv => whnf); exact ⟨.refl, ⟨.refl, .refl, gh2, .refl, trivial⟩, by rfl⟩) | fail
  · first | (refine ⟨[.shutc 0 12, .cell 0 15 48 7, .xchg 3 2], ?_⟩; (conv => whnf); exact ⟨.refl, ⟨.refl, .refl, gh2, .refl, trivial⟩, by rfl⟩) | (refine ⟨[.shutc 0 12, .cell 0 15 48 7, .xchg 3 3], ?_⟩; (conv => whnf); exact ⟨.refl, ⟨.refl, .refl, gh2, .refl, trivial⟩, by rfl⟩) | (refine ⟨[.shutc 0 12, .cell 0 15 48 7, .xchg 3 4], ?_⟩; (conv => whnf); exact ⟨.refl, ⟨.refl, .refl, gh2, .refl, trivial⟩, by rfl⟩) | (refine ⟨[.shutc 0 12, .cell 0 15 48 7, .xchg 3 5], ?_⟩; (conv => whnf); exact ⟨.refl, ⟨.refl, .refl, gh2, .refl, trivial⟩, by rfl⟩) | (refine ⟨[.shutc 0 12, .cell 0 15 48 7, .xchg 3 6], ?_⟩; (conv => whnf); exact ⟨.refl, ⟨.refl, .refl, gh2, .refl, trivial⟩, by rfl⟩) | (refine ⟨[.shutc 0 12, .cell 0 15 48 7, .xchg 3 7], ?_⟩; (conv => whnf); exact ⟨.refl, ⟨.refl, .refl, gh2, .refl, trivial⟩, by rfl⟩) | (refine ⟨[.shutc 0 12, .cell 0 15 48 7, .xchg 3 8], ?_⟩; (conv => whnf); exact ⟨.refl, ⟨.refl, .refl, gh2, .refl, trivial⟩, by rfl⟩) | (refine ⟨[.shutc 0 12, .cell 0 15 48 7, .xchg 3 9], ?_⟩; (conv => whnf); exact ⟨.refl, ⟨.refl, .refl, gh2, .refl, trivial⟩, by rfl⟩) | fail
end Go.Proofs.Ytmbniilpgbjcfaa

set_option maxRecDepth 100000
namespace Go.Proofs.Ytmbniilpgbjcfaa
open Go.Lift
set_option maxHeartbeats 8000000 in
theorem c_agreement_cloneState (s : Agr) (hs : SmA s) : Ret Try.prog 58 [.agg (agrE s)] (.agg (agrE s)) := by
  have b1 := hs.mem
  have b2 := hs.acut
  have b3 := hs.prop
  have b4 := hs.cho
  have b5 := hs.dec
  have b6 := hs.reps
  have b7 : ∀ b ∈ s.reps, b.cut.length ≤ 1000000 := fun b hb => by have := hs.repc b hb; omega
  have b8 := hs.accs
  have b9 : ∀ b ∈ s.accs, b.cut.length ≤ 1000000 := fun b hb => by have := hs.accc b hb; omega
  have hbl := hs.box
  have hby := byB (n := (s.box.map balE).length) (by simp; omega)
  refine ret_of_body (fn := Try.f58) (c := Try.f58.body.getD .skip) hm hT (by kernel_rfl) Try.func58 (by kernel_rfl) (by kernel_rfl) (by kernel_rfl) (by kernel_rfl) ?_
  repeat' ((conv => whnf); first | refine And.intro (fun h => h) ?_ | refine dcond_t (by assumption) ?_ | refine dcond_f (by assumption) ?_ | (refine dcond_intro ?_ ?_ <;> intro h) | exact .refl | refine And.intro (by kernel_rfl) ?_ | refine And.intro ⟨fun h => h, fun h => h⟩ ?_ | refine .inl ⟨_, _, DleAll_refl _, c_agreement_clone _ (by omega), ?_⟩ | refine ⟨_, _, DleAll_refl _, fun _ => c_agreement_clone _ (by omega), ?_⟩ | refine ⟨_, _, DleAll_refl _, c_agreement_clone _ (by omega), ?_⟩ | refine .inl ⟨_, _, DleAll_refl _, c_agreement_cloneReports _ (by omega) (by assumption), ?_⟩ | refine ⟨_, _, DleAll_refl _, fun _ => c_agreement_cloneReports _ (by omega) (by assumption), ?_⟩ | refine ⟨_, _, DleAll_refl _, c_agreement_cloneReports _ (by omega) (by assumption), ?_⟩ | refine ⟨(s.box.map balE).length, (s.box.map balE).length, rfl, rfl, Nat.le_refl _, hby.1, hby.2, ?_⟩ | refine Exists.intro false ?_ | (refine And.intro ?_ ?_; focus (simp; done)) | fail)
  all_goals (conv => whnf)
  refine ⟨Nat, fun i => ⟨[(2, .lp 1 0), (3, .lp 3 0), (54, .lst 2 (s.box.map balE) false), (55, i64 s.box.length), (56, i64 i)], [.cells 30 (agrE s), .cells 30 (tinfo tt 30).zero, .row 88 2 ((s.box.take i).map balE ++ List.replicate (s.box.length - i) z2), .cells 30 [i64 s.self, i64 s.view.num, .lst 1 (s.view.mem.map intE) false, i64 s.acc.pro, i64 s.acc.rank, .lst 1 (s.acc.cut.map intE) false, .lst 1 (s.prop.map intE) false, .own 2, i64 s.rank, i64 s.phase, .lst 3 (s.reps.map rptE) false, .lst 1 (s.cho.map intE) false, .lst 3 (s.accs.map rptE) false, .lst 1 (s.dec.map intE) false, i64 s.wait]]⟩, fun i => i ≤ s.box.length, fun i => s.box.length - i, [], ⟨0, Nat.zero_le _, ?_⟩, ?_⟩
  · conv => whnf
    refine ⟨⟨.refl, .refl, .refl, dle_int (by simp), .refl, trivial⟩, ⟨.refl, .refl, ole_row ?_, .refl, trivial⟩, by rfl⟩
    rw [List.length_map]
    rfl
  · intro i hi
    conv => whnf
    refine dcond_intro ?_ ?_ <;> intro h
    · have hlt : i < s.box.length := by simpa using h
      clear h
      have hlen := fill_len (f := balE) (z := z2) (l := s.box) (i := i) hi
      have hl0 : i < ((s.box.take i).map balE ++ List.replicate (s.box.length - i) z2).length := by omega
      have hget := fill_get (f := balE) (z := z2) hlt
      have hset := fill_set (f := balE) (z := z2) hlt
      have hbc := hs.boxc _ (List.getElem_mem hlt)
      repeat' ((conv => whnf); first | refine And.intro (fun h => h) ?_ | refine dcond_t (by assumption) ?_ | refine dcond_f (by assumption) ?_ | (refine dcond_intro ?_ ?_ <;> intro h) | exact .refl | refine And.intro (by kernel_rfl) ?_ | refine And.intro ⟨fun h => h, fun h => h⟩ ?_ | refine ⟨_, _, And.intro ⟨rfl, get_map hlt⟩ ?_⟩ | refine .inl ⟨_, _, DleAll_refl _, c_agreement_clone _ (by omega), ?_⟩ | refine ⟨_, _, DleAll_refl _, fun _ => c_agreement_clone _ (by omega), ?_⟩ | refine ⟨_, _, DleAll_refl _, c_agreement_clone _ (by omega), ?_⟩ | refine ⟨i, And.intro ⟨rfl, hl0⟩ ?_⟩ | refine ⟨z2, And.intro hget ?_⟩ | refine ⟨z2, hget, ?_⟩ | refine Exists.intro false ?_ | (refine And.intro ?_ ?_; focus (simp; done)) | fail)
      all_goals (conv => whnf)
      refine ⟨i + 1, hlt, by simp only []; omega, ?_⟩
      conv => whnf
      refine ⟨⟨.refl, .refl, .refl, .refl, dle_int (wrap_succ (by omega)), trivial⟩, ⟨.refl, .refl, ole_row ?_, .refl, trivial⟩, by rfl⟩
      rw [← hset]
      rfl
    · have hge : ¬ i < s.box.length := by simpa using h
      have : i = s.box.length := by omega
      subst this
      clear h
      rw [fill_end]
      repeat' ((conv => whnf); first | refine And.intro (fun h => h) ?_ | refine dcond_t (by assumption) ?_ | refine dcond_f (by assumption) ?_ | (refine dcond_intro ?_ ?_ <;> intro h) | exact .refl | refine And.intro (by kernel_rfl) ?_ | refine And.intro ⟨fun h => h, fun h => h⟩ ?_ | refine Exists.intro false ?_ | (refine And.intro ?_ ?_; focus (simp; done)) | fail)
      all_goals trace_state
end Go.Proofs.Ytmbniilpgbjcfaa

set_option maxRecDepth 100000
namespace Go.Proofs.Ytmbniilpgbjcfaa
open Go.Lift
theorem sq_cloneState (s : Agr) (hs : SmA s) : RetM Try.prog 58 [] [.agg (agrE s)] [] [.row 73 3 (s.accs.map rptE)] (.agg (agrO s 0)) := by
  have h1 := (m_cloneState s hs).squeeze (L1 := []) (L2 := [.dead, .dead, .row 73 3 (s.accs.map rptE)]) (Nat.le_refl _)
  have h2 := RetM.squeeze (L1 := []) (L2 := [.dead, .row 73 3 (s.accs.map rptE)]) (d := .agg (agrO s 2)) h1 (Nat.le_refl _)
  exact RetM.squeeze (L1 := []) (L2 := [.row 73 3 (s.accs.map rptE)]) (d := .agg (agrO s 1)) h2 (Nat.le_refl _)
theorem sm_idle {s : Agr} (hs : SmA s) : SmA (idleA s) := ⟨hs.mem, hs.acut, hs.prop, hs.box, hs.boxc, Nat.zero_le _, (fun b hb => by cases hb), Nat.zero_le _, hs.accs, hs.accc, hs.dec⟩
theorem sm_prep {s : Agr} (hs : SmA s) (m : Msg) : SmA (prepA s m).1 := by
  have h1 : SmA { s with acc := (prepR s.acc m.rank).1 } := ⟨hs.mem, (prep_len hs.acut).1, hs.prop, hs.box, hs.boxc, hs.reps, hs.repc, hs.cho, hs.accs, hs.accc, hs.dec⟩
  unfold prepA
  cases decide (s.rank < m.rank) && !decide (s.phase = 0) <;> cases (prepR s.acc m.rank).2.2
  · exact hs
  · exact h1
  · exact sm_idle hs
  · exact sm_idle h1
theorem sm_accs {s : Agr} (hs : SmA s) {r : Rpt} (hr : r.cut.length ≤ 1000) (hl : s.accs.length ≤ 900) : SmA { s with accs := enterR s.view s.accs r } :=
  ⟨hs.mem, hs.acut, hs.prop, hs.box, hs.boxc, hs.reps, hs.repc, hs.cho, (by have := @enter_len s.view s.accs r; simp only []; omega), (fun x hx => by
    rcases enter_mem hx with rfl | hx
    · exact hr
    · exact hs.accc x hx), hs.dec⟩
theorem sm_adv {s : Agr} (hs : SmA s) (hl : s.accs.length ≤ 900) : SmA (advA s) := by
  have hcl := choose_len (v := s.view) (l := s.reps) (own := s.prop) hs.repc hs.prop
  unfold advA
  cases !decide (s.phase = 1) || decide ((s.reps.length : Int) < majB s.view.mem.length)
  · cases (acceptR s.acc s.rank (chooseR s.view s.reps s.prop).1).2
    · exact sm_idle hs
    · have h1 := sm_accs (r := ⟨s.self, s.rank, (chooseR s.view s.reps s.prop).1⟩) hs hcl hl
      exact ⟨hs.mem, accept_len hs.acut hcl, hs.prop, hs.box, hs.boxc, hs.reps, hs.repc, hcl, h1.accs, h1.accc, hs.dec⟩
  · exact hs
theorem sm_prom {s : Agr} (hs : SmA s) (hrl : s.reps.length ≤ 900) (hl : s.accs.length ≤ 900) {m : Msg} (hc : m.cut.length ≤ 1000) : SmA (promA s m).1 := by
  unfold promA
  cases !decide (s.phase = 1) || !decide (m.rank = s.rank)
  · refine sm_adv ⟨hs.mem, hs.acut, hs.prop, hs.box, hs.boxc, (by have := @add_len s.view s.reps ⟨m.src, m.last, m.cut⟩; simp only []; omega), (fun x hx => ?_), hs.cho, hs.accs, hs.accc, hs.dec⟩ hl
    rcases add_mem hx with rfl | hx
    · exact hc
    · exact hs.repc x hx
  · exact hs
theorem sm_acct {s : Agr} (hs : SmA s) (hl : s.accs.length ≤ 800) {m : Msg} (hc : m.cut.length ≤ 1000) : SmA (acctA s m).1 := by
  have h1 := sm_accs (r := ⟨m.src, m.rank, m.cut⟩) hs hc (by omega)
  have h2 := sm_accs (r := ⟨s.self, m.rank, m.cut⟩) h1 hc (by have := @enter_len s.view s.accs ⟨m.src, m.rank, m.cut⟩; simp only []; omega)
  unfold acctA
  cases (acceptR s.acc m.rank m.cut).2
  · exact h1
  · exact ⟨hs.mem, accept_len hs.acut hc, hs.prop, hs.box, hs.boxc, hs.reps, hs.repc, hs.cho, h2.accs, h2.accc, hs.dec⟩
theorem prepA_ps (s : Agr) (m : Msg) : (prepA s m).2.length ≤ 100 := by
  unfold prepA
  cases (prepR s.acc m.rank).2.2 <;> simp
theorem promA_ps (s : Agr) (m : Msg) : (promA s m).2.length ≤ 100 := by
  unfold promA
  cases !decide (s.phase = 1) || !decide (m.rank = s.rank)
  · cases decide ((advA { s with reps := (addR s.view s.reps ⟨m.src, m.last, m.cut⟩).1 }).phase = 2) <;> simp
  · simp
theorem acctA_ps (s : Agr) (m : Msg) : (acctA s m).2.length ≤ 100 := by
  unfold acctA
  cases (acceptR s.acc m.rank m.cut).2 <;> simp
theorem reps_16 {v : View} {l : List Rpt} (h : repsB v l = true) : l.length ≤ 16 := by
  have hv : viewB v = true := by
    simp only [repsB, Bool.and_eq_true] at h
    exact h.1
  have h2 := ((reps_iff hv).1 h)
  have h3 : (l.map (·.mem)).Nodup := by
    unfold List.Nodup
    rw [List.pairwise_map]
    exact h2.2.imp fun h => by omega
  have h4 := nodup_len h3 (b := v.mem) (fun x hx => by
    obtain ⟨r, hr, rfl⟩ := List.mem_map.1 hx
    have := h2.1 r hr
    simp only [vrB, Bool.and_eq_true] at this
    exact in_mem this.1)
  rw [List.length_map] at h4
  have := view_n hv
  omega
theorem agr_reps {s : Agr} (h : agrB s = true) : repsB s.view s.reps = true ∧ repsB s.view s.accs = true ∧ phaseB s = true ∧ (∀ i, i < s.accs.length → leP 1 s.accs i = true) := by
  unfold agrB at h
  cases h1 : !viewB s.view || !inB s.view.mem s.self || decide (s.wait < 0) || decide (1099511627776 < s.wait)
  · rw [h1, cond_false] at h
    cases h2 : (!accB s.acc || !decide (s.acc.pro = 0) && !properB s.view s.acc.pro || decide (0 < s.acc.rank) && !properB s.view s.acc.rank || !goodB s.view s.acc.cut)
    · rw [h2, cond_false] at h
      cases h3 : !goodB s.view s.prop || !goodB s.view s.cho || !goodB s.view s.dec || !boxB s.view s.box
      · rw [h3, cond_false] at h
        cases h4 : (cutOf s.box s.self).2 && !sameI (cutOf s.box s.self).1 s.prop
        · rw [h4, cond_false] at h
          simp only [Bool.and_eq_true, prB] at h
          exact ⟨h.2.1.1.2, h.2.1.2.2, h.2.2, allB_true.1 h.1⟩
        · rw [h4] at h
          cases h
      · rw [h3] at h
        cases h
    · rw [h2] at h
      cases h
  · rw [h1] at h
    cases h
theorem vm_rpt {v : View} {m : Msg} (h : vmB v m = true) (hk : m.kind = 4 ∨ m.kind = 5) : vrB v ⟨m.src, m.rank, m.cut⟩ = true := by
  unfold vmB at h
  cases h1 : !viewB v || !inB v.mem m.src || !decide (m.view = v.num)
  · rw [h1, cond_false] at h
    simp only [Bool.or_eq_false_iff, Bool.not_eq_false', decide_eq_true_eq] at h1
    rcases hk with hk | hk <;> simp [hk] at h <;> simp only [vrB, usableB, properB, appB, Bool.and_eq_true, Bool.or_eq_true, Bool.not_eq_true', decide_eq_true_eq, decide_eq_false_iff_not] at h ⊢
    · exact ⟨h1.1.2, .inr ⟨.inr h.1.1.1.1, h.2⟩⟩
    · exact ⟨h1.1.2, .inr ⟨.inr h.1.1.1, h.2⟩⟩
  · rw [h1] at h
    cases h
end Go.Proofs.Ytmbniilpgbjcfaa

set_option maxRecDepth 100000
namespace Go.Proofs.Ytmbniilpgbjcfaa
open Go.Lift
def propA (s : Agr) (cut : List Int) : Agr × List Pkt × Int :=
  bif !agrB s || !appB s.view cut then (agr0, [], 1)
  else bif decide (0 < (s.prop.length : Int)) || decide (0 < (s.dec.length : Int)) then (agr0, [], 7)
  else bif (voteR s.acc cut).2 then
    ((endA { s with prop := cut, wait := 0, acc := (voteR s.acc cut).1, box := (castR s.view s.box ⟨s.self, cut⟩).1 } [pktOf s 0 1 0 0 cut]).1, (endA { s with prop := cut, wait := 0, acc := (voteR s.acc cut).1, box := (castR s.view s.box ⟨s.self, cut⟩).1 } [pktOf s 0 1 0 0 cut]).2, 0)
  else ((endA { s with prop := cut, wait := 0 } []).1, (endA { s with prop := cut, wait := 0 } []).2, 0)
theorem agr_view {s : Agr} (h : agrB s = true) : viewB s.view = true ∧ inB s.view.mem s.self = true ∧ 0 ≤ s.wait ∧ s.wait ≤ 1099511627776 := by
  unfold agrB at h
  cases h1 : !viewB s.view || !inB s.view.mem s.self || decide (s.wait < 0) || decide (1099511627776 < s.wait)
  · simp only [Bool.or_eq_false_iff, Bool.not_eq_false', decide_eq_false_iff_not] at h1
    exact ⟨h1.1.1.1, h1.1.1.2, by omega, by omega⟩
  · rw [h1] at h
    cases h
theorem agr_good {s : Agr} (h : agrB s = true) : goodB s.view s.prop = true ∧ goodB s.view s.cho = true ∧ goodB s.view s.dec = true ∧ boxB s.view s.box = true := by
  unfold agrB at h
  cases h1 : !viewB s.view || !inB s.view.mem s.self || decide (s.wait < 0) || decide (1099511627776 < s.wait)
  · rw [h1, cond_false] at h
    generalize (!accB s.acc || !decide (s.acc.pro = 0) && !properB s.view s.acc.pro || decide (0 < s.acc.rank) && !properB s.view s.acc.rank || !goodB s.view s.acc.cut) = b at h
    cases b
    · rw [cond_false] at h
      cases h2 : !goodB s.view s.prop || !goodB s.view s.cho || !goodB s.view s.dec || !boxB s.view s.box
      · simp only [Bool.or_eq_false_iff, Bool.not_eq_false'] at h2
        exact ⟨h2.1.1.1, h2.1.1.2, h2.1.2, h2.2⟩
      · rw [h2] at h
        cases h
    · cases h
  · rw [h1] at h
    cases h
theorem agr_box {s : Agr} (h : agrB s = true) : s.box.length ≤ 16 := by
  have := box_le (agr_good h).2.2.2
  have := view_n (agr_view h).1
  omega
theorem cast_len {v : View} {l : List Bal} {b : Bal} : (castR v l b).1.length ≤ l.length + 1 := by
  unfold castR
  have := insB_len l b
  cases !boxB v l || !appB v b.cut <;> cases !inB v.mem b.mem <;> cases decide (0 ≤ ofBal l b.mem) <;> simp <;> omega
theorem cast_cut {v : View} {l : List Bal} {b : Bal} {N : Nat} (hl : ∀ x ∈ l, x.cut.length ≤ N) (hb : b.cut.length ≤ N) : ∀ x ∈ (castR v l b).1, x.cut.length ≤ N := by
  unfold castR
  intro x hx
  cases h1 : !boxB v l || !appB v b.cut <;> cases h2 : !inB v.mem b.mem <;> cases h3 : decide (0 ≤ ofBal l b.mem) <;> rw [h1, h2, h3] at hx <;> simp only [cond_true, cond_false] at hx <;> try (cases hx; done)
  rcases insB_mem hx with rfl | hx
  · exact hb
  · exact hl x hx
set_option maxHeartbeats 8000000 in
theorem c_agreement_Propose (s : Agr) (hs : SmA s) (cut : List Int) (hc : cut.length ≤ 1000) : Ret Try.prog 16 [.agg (agrE s), .lst 1 (cut.map intE) false] (.tup [.agg (agrE (propA s cut).1), .lst 7 ((propA s cut).2.1.map pktE) false, i64 (propA s cut).2.2]) := by
  have hv := hs.mem
  have e12 := c_agreement_Valid s hs
  have e55 := c_agreement_applicable s.view (by omega) cut (by omega)
  have e58 := c_agreement_cloneState s hs
  have e59 := c_paxos_OnVote s.acc (by have := hs.acut; omega) cut (by omega)
  have e60 := c_fastvote_Cast s.view (by omega) s.box (by have := hs.box; omega) (fun b hb => by have := hs.boxc b hb; omega) ⟨s.self, cut⟩ (by simp only []; omega)
  have hs1 : SmA { s with prop := cut, wait := 0 } := ⟨hs.mem, hs.acut, hc, hs.box, hs.boxc, hs.reps, hs.repc, hs.cho, hs.accs, hs.accc, hs.dec⟩
  have hs2 : agrB s = true → SmA { s with prop := cut, wait := 0, acc := (voteR s.acc cut).1, box := (castR s.view s.box ⟨s.self, cut⟩).1 } := fun h =>
    ⟨hs.mem, vote_len hs.acut hc, hc, by
      have := cast_len (v := s.view) (l := s.box) (b := ⟨s.self, cut⟩)
      have := agr_box h
      simp only []
      omega, cast_cut hs.boxc hc, hs.reps, hs.repc, hs.cho, hs.accs, hs.accc, hs.dec⟩
  obtain ⟨R, hR⟩ : ∃ R, R = propA s cut := ⟨_, rfl⟩
  rw [← hR]
  unfold propA at hR
  generalize voteR s.acc cut = V at *
  generalize (castR s.view s.box ⟨s.self, cut⟩) = X at *
  generalize agrB s = B at *
  have msend := m_send_nil { s with prop := cut, wait := 0, acc := V.1, box := X.1 } 0 1 0 0 cut (by omega)
  have mend1 := m_end_nil _ hs1
  have mend2 := fun h => m_end_own _ (hs2 h) [pktOf s 0 1 0 0 cut] (by simp)
  refine ret_of_body (fn := Try.f16) (c := Try.f16.body.getD .skip) hm hT (by kernel_rfl) Try.func16 (by kernel_rfl) (by kernel_rfl) (by kernel_rfl) (by kernel_rfl) ?_
  repeat' ((conv => whnf); first | refine And.intro (fun h => h) ?_ | refine dcond_t (by assumption) ?_ | refine dcond_f (by assumption) ?_ | (refine dcond_intro ?_ ?_ <;> intro h) | exact .refl | refine And.intro (by kernel_rfl) ?_ | refine And.intro ⟨fun h => h, fun h => h⟩ ?_ | refine .inl ⟨_, _, DleAll_refl _, e12, ?_⟩ | refine ⟨_, _, DleAll_refl _, fun _ => e12, ?_⟩ | refine ⟨_, _, DleAll_refl _, e12, ?_⟩ | refine .inl ⟨_, _, DleAll_refl _, e55, ?_⟩ | refine ⟨_, _, DleAll_refl _, fun _ => e55, ?_⟩ | refine ⟨_, _, DleAll_refl _, e55, ?_⟩ | refine .inl ⟨_, _, DleAll_refl _, e58, ?_⟩ | refine ⟨_, _, DleAll_refl _, fun _ => e58, ?_⟩ | refine ⟨_, _, DleAll_refl _, e58, ?_⟩ | refine Exists.intro false ?_ | (refine And.intro ?_ ?_; focus (simp; done)) | fail)
  · simp only [h, cond_true] at hR
    subst hR
    exact dle_tupA ⟨dle_aggA ⟨.refl, .refl, .nl, .refl, .refl, .nl, .nl, .nl, .refl, .refl, .nl, .nl, .nl, .nl, .refl, trivial⟩, .nl, .refl, trivial⟩
  · rename_i h0
    rw [List.length_map, List.length_map] at h
    simp only [h0, h, cond_true, cond_false] at hR
    subst hR
    exact dle_tupA ⟨dle_aggA ⟨.refl, .refl, .nl, .refl, .refl, .nl, .nl, .nl, .refl, .refl, .nl, .nl, .nl, .nl, .refl, trivial⟩, .nl, .refl, trivial⟩
  rename_i h0
  rw [List.length_map, List.length_map] at h
  simp only [h0, h, cond_false] at hR
  clear h
  have hB : B = true := by
    cases B
    · cases h0
    · rfl
  repeat' ((conv => whnf); first | refine And.intro (fun h => h) ?_ | refine dcond_t (by assumption) ?_ | refine dcond_f (by assumption) ?_ | (refine dcond_intro ?_ ?_ <;> intro h) | exact .refl | refine And.intro (by kernel_rfl) ?_ | refine And.intro ⟨fun h => h, fun h => h⟩ ?_ | refine .inl ⟨_, _, DleAll_refl _, e12, ?_⟩ | refine ⟨_, _, DleAll_refl _, fun _ => e12, ?_⟩ | refine ⟨_, _, DleAll_refl _, e12, ?_⟩ | refine .inl ⟨_, _, DleAll_refl _, e55, ?_⟩ | refine ⟨_, _, DleAll_refl _, fun _ => e55, ?_⟩ | refine ⟨_, _, DleAll_refl _, e55, ?_⟩ | refine .inl ⟨_, _, DleAll_refl _, e58, ?_⟩ | refine ⟨_, _, DleAll_refl _, fun _ => e58, ?_⟩ | refine ⟨_, _, DleAll_refl _, e58, ?_⟩ | refine .inl ⟨_, _, DleAll_refl _, c_agreement_clone _ (by omega), ?_⟩ | refine ⟨_, _, DleAll_refl _, fun _ => c_agreement_clone _ (by omega), ?_⟩ | refine ⟨_, _, DleAll_refl _, c_agreement_clone _ (by omega), ?_⟩ | refine .inl ⟨_, _, DleAll_refl _, e59, ?_⟩ | refine ⟨_, _, DleAll_refl _, fun _ => e59, ?_⟩ | refine ⟨_, _, DleAll_refl _, e59, ?_⟩ | refine .inl ⟨_, _, DleAll_refl _, e60, ?_⟩ | refine ⟨_, _, DleAll_refl _, fun _ => e60, ?_⟩ | refine ⟨_, _, DleAll_refl _, e60, ?_⟩ | refine .inr ⟨[2], _, _, _, _, _, msend, by rfl, ⟨.refl, trivial⟩, ⟨.refl, .refl, .refl, .refl, .refl, .refl, trivial⟩, ?_⟩ | refine .inr ⟨[2], _, _, _, _, _, mend1, by rfl, ⟨.refl, trivial⟩, ⟨.refl, trivial⟩, ?_⟩ | refine .inr ⟨[2, 6], _, _, _, _, _, mend2 hB, by rfl, ⟨.refl, .refl, trivial⟩, ⟨.refl, trivial⟩, ?_⟩ | refine Exists.intro false ?_ | (refine And.intro ?_ ?_; focus (simp; done)) | fail)
  all_goals (conv => whnf)
  all_goals (simp only [h, cond_true, cond_false] at hR)
  all_goals subst hR
  all_goals exact .refl
end Go.Proofs.Ytmbniilpgbjcfaa

set_option maxRecDepth 100000
namespace Go.Proofs.Ytmbniilpgbjcfaa
open Go.Lift
def voteA (s : Agr) (m : Msg) : Agr := bif decide ((castR s.view s.box ⟨m.src, m.cut⟩).2 = 0) then { s with box := (castR s.view s.box ⟨m.src, m.cut⟩).1 } else s
set_option maxHeartbeats 8000000 in
theorem c_Receive_vote (s : Agr) (hs : SmA s) (m : Msg) (hc : m.cut.length ≤ 1000) (h1 : agrB s = true) (h2 : m.view = s.view.num) (h3 : vmB s.view m = true) (h4 : m.src ≠ s.self) (h5 : s.dec = []) (h6 : m.kind = 1) :
    Ret Try.prog 17 [.agg (agrE s), .agg (msgE m)] (.tup [.agg (agrE (endA (voteA s m) []).1), .lst 7 ((endA (voteA s m) []).2.map pktE) false, i64 0]) := by
  have hv := hs.mem
  have e12 := c_agreement_Valid s hs
  have e14 := c_agreement_ValidMessage s.view (by omega) m (by omega)
  have e58 := c_agreement_cloneState s hs
  have e60 := c_fastvote_Cast s.view (by omega) s.box (by have := hs.box; omega) (fun b hb => by have := hs.boxc b hb; omega) ⟨m.src, m.cut⟩ (by simp only []; omega)
  have hbx := agr_box h1
  have hs2 : SmA (voteA s m) := by
    unfold voteA
    cases decide ((castR s.view s.box ⟨m.src, m.cut⟩).2 = 0)
    · exact hs
    · exact ⟨hs.mem, hs.acut, hs.prop, by
        have := cast_len (v := s.view) (l := s.box) (b := ⟨m.src, m.cut⟩)
        simp only [cond_true]
        omega, cast_cut hs.boxc hc, hs.reps, hs.repc, hs.cho, hs.accs, hs.accc, hs.dec⟩
  have mend := m_end_nil _ hs2
  have hy : decide ((castR s.view s.box ⟨m.src, m.cut⟩).2 = 0) = true → voteA s m = { s with box := (castR s.view s.box ⟨m.src, m.cut⟩).1 } := fun h => by rw [voteA, h, cond_true]
  have hn : decide ((castR s.view s.box ⟨m.src, m.cut⟩).2 = 0) = false → voteA s m = s := fun h => by rw [voteA, h, cond_false]
  have mendY : decide ((castR s.view s.box ⟨m.src, m.cut⟩).2 = 0) = true → RetM Try.prog 62 [.cells 95 (agrE { s with box := (castR s.view s.box ⟨m.src, m.cut⟩).1 } ++ [.nl])] [.lp 0 0] [false] [.dead] (.tup [.agg (agrE (endA (voteA s m) []).1), .lst 7 ((endA (voteA s m) []).2.map pktE) false]) := fun h => by
    have := mend
    rw [hy h] at this ⊢
    exact this
  have mendN : decide ((castR s.view s.box ⟨m.src, m.cut⟩).2 = 0) = false → RetM Try.prog 62 [.cells 95 (agrE s ++ [.nl])] [.lp 0 0] [false] [.dead] (.tup [.agg (agrE (endA (voteA s m) []).1), .lst 7 ((endA (voteA s m) []).2.map pktE) false]) := fun h => by
    have := mend
    rw [hn h] at this ⊢
    exact this
  clear mend hy hn hs2
  generalize endA (voteA s m) [] = E at *
  generalize castR s.view s.box ⟨m.src, m.cut⟩ = X at *
  rw [h1] at e12
  rw [h3] at e14
  have h4' : decide (m.src = s.self) = false := decide_eq_false h4
  have h2' : decide (m.view = s.view.num) = true := decide_eq_true h2
  have h5' : decide (0 < ((s.dec.map intE).length : Int)) = false := by rw [h5]; rfl
  have h6' : decide (m.kind = 1) = true := decide_eq_true h6
  refine ret_of_body (fn := Try.f17) (c := Try.f17.body.getD .skip) hm hT (by kernel_rfl) Try.func17 (by kernel_rfl) (by kernel_rfl) (by kernel_rfl) (by kernel_rfl) ?_
  repeat' ((conv => whnf); first | refine And.intro (fun h => h) ?_ | refine dcond_t (by assumption) ?_ | refine dcond_f (by assumption) ?_ | (refine dcond_intro ?_ ?_ <;> intro h) | exact .refl | refine And.intro (by kernel_rfl) ?_ | refine And.intro ⟨fun h => h, fun h => h⟩ ?_ | refine .inl ⟨_, _, DleAll_refl _, e12, ?_⟩ | refine ⟨_, _, DleAll_refl _, fun _ => e12, ?_⟩ | refine ⟨_, _, DleAll_refl _, e12, ?_⟩ | refine .inl ⟨_, _, DleAll_refl _, e14, ?_⟩ | refine ⟨_, _, DleAll_refl _, fun _ => e14, ?_⟩ | refine ⟨_, _, DleAll_refl _, e14, ?_⟩ | refine .inl ⟨_, _, DleAll_refl _, e58, ?_⟩ | refine ⟨_, _, DleAll_refl _, fun _ => e58, ?_⟩ | refine ⟨_, _, DleAll_refl _, e58, ?_⟩ | refine .inl ⟨_, _, DleAll_refl _, e60, ?_⟩ | refine ⟨_, _, DleAll_refl _, fun _ => e60, ?_⟩ | refine ⟨_, _, DleAll_refl _, e60, ?_⟩ | refine .inr ⟨[3], _, _, _, _, _, mendY (by assumption), by rfl, ⟨.refl, trivial⟩, ⟨.refl, trivial⟩, ?_⟩ | refine .inr ⟨[3], _, _, _, _, _, mendN (by assumption), by rfl, ⟨.refl, trivial⟩, ⟨.refl, trivial⟩, ?_⟩ | refine Exists.intro false ?_ | (refine And.intro ?_ ?_; focus (simp; done)) | fail)
  all_goals (conv => whnf)
  rw [h2'] at h
  cases h
end Go.Proofs.Ytmbniilpgbjcfaa

set_option maxRecDepth 100000
namespace Go.Proofs.Ytmbniilpgbjcfaa
open Go.Lift
theorem m_send_own0 (s : Agr) (ps : List Pkt) (hps : ps.length ≤ 100) (to kind rank last : Int) (cut : List Int) (hc : cut.length ≤ 1000000) :
    RetM Try.prog 61 [.cells 95 (agrE s ++ [.own 1]), .row 48 7 (ps.map pktE)] [.lp 0 0, i64 to, i64 kind, i64 rank, i64 last, .lst 1 (cut.map intE) false] [true, false] [.cells 95 (agrE s ++ [.own 3]), .gone, .dead, .row 48 7 ((ps ++ [pktOf s to kind rank last cut]).map pktE)] (.tup []) := by
  refine retM_of_bodyA (fn := Try.f61) (c := Try.f61.body.getD .skip) hm hT (by kernel_rfl) Try.func61 (by kernel_rfl) (by kernel_rfl) (by kernel_rfl) (by kernel_rfl) (by kernel_rfl) ?_
  repeat' ((conv => whnf); first | refine And.intro (fun h => h) ?_ | refine dcond_t (by assumption) ?_ | refine dcond_f (by assumption) ?_ | (refine dcond_intro ?_ ?_ <;> intro h) | exact .refl | refine And.intro (by kernel_rfl) ?_ | refine And.intro ⟨fun h => h, fun h => h⟩ ?_ | refine .inl ⟨_, _, DleAll_refl _, c_agreement_clone _ hc, ?_⟩ | refine ⟨_, _, DleAll_refl _, fun _ => c_agreement_clone _ hc, ?_⟩ | refine ⟨_, _, DleAll_refl _, c_agreement_clone _ hc, ?_⟩ | refine And.intro (fitsP (by simp <;> omega)) ?_ | refine Exists.intro false ?_ | (refine And.intro ?_ ?_; focus (simp; done)) | fail)
  all_goals (conv => whnf)
  first | (refine ⟨[.fresh 48 7, .xchg 1 3, .xchg 3 3, .bury 1], ?_⟩; (conv => whnf); refine ⟨.refl, ⟨.refl, .refl, gh2, ole_row ?_, trivial⟩, by rfl⟩) | (refine ⟨[.fresh 48 7, .xchg 1 4, .xchg 3 4, .bury 1], ?_⟩; (conv => whnf); refine ⟨.refl, ⟨.refl, .refl, gh2, ole_row ?_, trivial⟩, by rfl⟩) | (refine ⟨[.fresh 48 7, .xchg 1 5, .xchg 3 5, .bury 1], ?_⟩; (conv => whnf); refine ⟨.refl, ⟨.refl, .refl, gh2, ole_row ?_, trivial⟩, by rfl⟩) | (refine ⟨[.fresh 48 7, .xchg 1 6, .xchg 3 6, .bury 1], ?_⟩; (conv => whnf); refine ⟨.refl, ⟨.refl, .refl, gh2, ole_row ?_, trivial⟩, by rfl⟩) | (refine ⟨[.fresh 48 7, .xchg 1 7, .xchg 3 7, .bury 1], ?_⟩; (conv => whnf); refine ⟨.refl, ⟨.refl, .refl, gh2, ole_row ?_, trivial⟩, by rfl⟩) | (refine ⟨[.fresh 48 7, .xchg 1 8, .xchg 3 8, .bury 1], ?_⟩; (conv => whnf); refine ⟨.refl, ⟨.refl, .refl, gh2, ole_row ?_, trivial⟩, by rfl⟩) | fail
  rw [List.map_append]
  rfl
theorem m_send_osq (s : Agr) (ps : List Pkt) (hps : ps.length ≤ 100) (to kind rank last : Int) (cut : List Int) (hc : cut.length ≤ 1000000) :
    RetM Try.prog 61 [.cells 95 (agrE s ++ [.own 1]), .row 48 7 (ps.map pktE)] [.lp 0 0, i64 to, i64 kind, i64 rank, i64 last, .lst 1 (cut.map intE) false] [true, false] [.cells 95 (agrE s ++ [.own 2]), .gone, .row 48 7 ((ps ++ [pktOf s to kind rank last cut]).map pktE)] (.tup []) :=
  (m_send_own0 s ps hps to kind rank last cut hc).squeeze (L1 := [.cells 95 (agrE s ++ [.own 3]), .gone]) (L2 := [.row 48 7 ((ps ++ [pktOf s to kind rank last cut]).map pktE)]) (Nat.le_refl _)
def attRank (s : Agr) : Int := rankOf (IntKind.i64.wrap ((if IntKind.i64.wrap (s.rank.tdiv 1024) < IntKind.i64.wrap (s.acc.pro.tdiv 1024) then IntKind.i64.wrap (s.acc.pro.tdiv 1024) else IntKind.i64.wrap (s.rank.tdiv 1024)) + 1)) s.self
def attA (s : Agr) : Agr :=
  bif decide (attRank s = 0) then s
  else bif (prepR s.acc (attRank s)).2.2 then advA { s with acc := (prepR s.acc (attRank s)).1, wait := 0, rank := attRank s, phase := 1, cho := [], reps := [⟨s.self, (prepR s.acc (attRank s)).2.1.rank, (prepR s.acc (attRank s)).2.1.cut⟩] }
  else s
set_option maxHeartbeats 8000000 in
theorem m_attempt (s : Agr) (hs : SmA s) (hok : repsB s.view s.accs = true) : RetM Try.prog 68 [.cells 95 (agrO s 1 ++ [.nl]), .row 73 3 (s.accs.map rptE)] [.lp 0 0] [true, false] [.cells 95 (agrE (attA s) ++ [.nl]), .gone] (.tup []) := by
  have e1 : Ret Try.prog 96 [.v (.int .i64 (IntKind.i64.wrap ((if IntKind.i64.wrap (s.rank.tdiv 1024) < IntKind.i64.wrap (s.acc.pro.tdiv 1024) then IntKind.i64.wrap (s.acc.pro.tdiv 1024) else IntKind.i64.wrap (s.rank.tdiv 1024)) + 1))), .v (.int .i64 s.self)] (.v (.int .i64 (attRank s))) := c_paxos_RankOf _ _
  obtain ⟨R, hR⟩ : ∃ R, R = attA s := ⟨_, rfl⟩
  rw [← hR]
  unfold attA at hR
  generalize attRank s = k at *
  have e2 := c_paxos_OnPrepare s.acc (by have := hs.acut; omega) k
  have hpl := prep_len (rank := k) hs.acut
  generalize prepR s.acc k = X at *
  have hs2 : SmA { s with acc := X.1, wait := 0, rank := k, phase := 1, cho := [], reps := [⟨s.self, X.2.1.rank, X.2.1.cut⟩] } := ⟨hs.mem, hpl.1, hs.prop, hs.box, hs.boxc, (by simp), (fun b hb => by
    rcases List.mem_singleton.1 hb with rfl
    exact hpl.2), Nat.zero_le _, hs.accs, hs.accc, hs.dec⟩
  have e3 := m_advance _ hs2 hok
  generalize advA { s with acc := X.1, wait := 0, rank := k, phase := 1, cho := [], reps := [⟨s.self, X.2.1.rank, X.2.1.cut⟩] } = A at *
  refine retM_of_bodyA (fn := Try.f68) (c := Try.f68.body.getD .skip) hm hT (by kernel_rfl) Try.func68 (by kernel_rfl) (by kernel_rfl) (by kernel_rfl) (by kernel_rfl) (by kernel_rfl) ?_
  repeat' ((conv => whnf); first | refine And.intro (fun h => h) ?_ | refine dcond_t (by assumption) ?_ | refine dcond_f (by assumption) ?_ | (refine dcond_intro ?_ ?_ <;> intro h) | exact .refl | refine And.intro (by kernel_rfl) ?_ | refine And.intro ⟨fun h => h, fun h => h⟩ ?_ | refine .inl ⟨_, _, DleAll_refl _, e1, ?_⟩ | refine ⟨_, _, DleAll_refl _, fun _ => e1, ?_⟩ | refine ⟨_, _, DleAll_refl _, e1, ?_⟩ | refine .inl ⟨_, _, DleAll_refl _, e2, ?_⟩ | refine ⟨_, _, DleAll_refl _, fun _ => e2, ?_⟩ | refine ⟨_, _, DleAll_refl _, e2, ?_⟩ | refine .inr ⟨[0, 1], _, _, _, _, _, e3, by rfl, ⟨ole_cellsA ⟨.refl, .refl, .refl, .refl, .refl, .refl, .refl, .refl, .refl, .refl, .lst, .nl, .refl, .refl, .refl, .refl, trivial⟩, .refl, trivial⟩, ⟨.refl, trivial⟩, ?_⟩ | refine Exists.intro false ?_ | (refine And.intro ?_ ?_; focus (simp; done)) | fail)
  all_goals (conv => whnf)
  · simp only [h, cond_true] at hR
    subst hR
    refine ⟨[.shutc 0 12, .bury 1], ?_⟩
    conv => whnf
    exact ⟨.refl, ⟨.refl, .refl, gh2, trivial⟩, by rfl⟩
  · rename_i h0
    have h9 : X.2.2 = false := by simpa using h
    simp only [h0, h9, cond_false] at hR
    subst hR
    refine ⟨[.shutc 0 12, .bury 1], ?_⟩
    conv => whnf
    exact ⟨.refl, ⟨.refl, .refl, gh2, trivial⟩, by rfl⟩
  · rename_i h0
    have h9 : X.2.2 = true := by simpa using h
    simp only [h0, h9, cond_false, cond_true] at hR
    subst hR
    refine ⟨[], ?_⟩
    conv => whnf
    exact ⟨.refl, ⟨.refl, .refl, gh2, trivial⟩, by rfl⟩
def sndV (s : Agr) : List Pkt := bif (cutOf s.box s.self).2 then [pktOf s 0 1 0 0 (cutOf s.box s.self).1] else []
def sndP (s : Agr) : List Pkt := bif decide (s.phase = 1) then [pktOf s 0 2 s.rank 0 []] else bif decide (s.phase = 2) then [pktOf s 0 4 s.rank 0 s.cho] else []
def sndA (s : Agr) : List Pkt := bif decide (0 ≤ ofB s.accs s.self) && !decide (s.phase = 2) then [pktOf s 0 5 (s.accs.getD (ofB s.accs s.self).toNat rpt0).rank 0 (s.accs.getD (ofB s.accs s.self).toNat rpt0).cut] else []
def rsdA (s : Agr) : List Pkt := sndV s ++ sndP s ++ sndA s
theorem cutOf_len {l : List Bal} {N : Nat} (hc : ∀ b ∈ l, b.cut.length ≤ N) (x : Int) : (cutOf l x).1.length ≤ N := by
  unfold cutOf
  cases decide (0 ≤ ofBal l x)
  · exact Nat.zero_le _
  · rcases Nat.lt_or_ge (ofBal l x).toNat l.length with h | h
    · simp only [cond_true, List.getD_eq_getElem?_getD, List.getElem?_eq_getElem h, Option.getD_some]
      exact hc _ (List.getElem_mem h)
    · simp only [cond_true, List.getD_eq_getElem?_getD, List.getElem?_eq_none h, Option.getD_none]
      exact Nat.zero_le _
end Go.Proofs.Ytmbniilpgbjcfaa
