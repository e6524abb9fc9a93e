/- A data-level logic for the model: what a body does to data; its soundness (part LiftL). No conditions. -/
import Derived.Test.YtmfgjjnmfahcjaaLiftK
set_option linter.unusedSimpArgs false
set_option linter.unusedVariables false
namespace Go.Lift
open Go

/-! # Regions whose order is drawn: the states on the way -/
theorem look_notin : ∀ {l e : List (Nat × DV)} {t : Nat}, t ∉ l.map (·.1) → look (l ++ e) t = look e t
  | [], e, t, _ => rfl
  | p :: r, e, t, h => by
    simp only [List.map_cons, List.mem_cons, not_or] at h
    simp only [List.cons_append, look]
    split
    · rename_i hb
      exact absurd (Nat.eq_of_beq_eq_true hb).symm h.1
    · exact look_notin h.2
theorem look_in : ∀ {l e e' : List (Nat × DV)} {t : Nat}, t ∈ l.map (·.1) → look (l ++ e) t = look (l ++ e') t
  | [], e, e', t, h => by simp at h
  | p :: r, e, e', t, h => by
    simp only [List.map_cons, List.mem_cons] at h
    simp only [List.cons_append, look]
    split
    · rfl
    · rename_i hb
      rcases h with h | h
      · subst h; simp at hb
      · exact look_in h
theorem lget_lset (l : List LObj) (i j : Nat) (x : LObj) : lget (lset l i x) j = if i = j ∧ j < l.length then x else lget l j := by
  rw [lget_eq, lget_eq, lset_eq, List.getElem?_set]
  by_cases h : i = j
  · subst h
    by_cases h2 : i < l.length
    · simp [h2]
    · simp [h2]
  · simp [h]
theorem length_lset (l : List LObj) (i : Nat) (x : LObj) : (lset l i x).length = l.length := by rw [lset_eq]; simp

theorem lsets_len : ∀ (wr : List (Nat × LObj)) (l : List LObj), (lsets l wr).length = l.length
  | [], l => rfl
  | p :: r, l => by rw [lsets, lsets_len r, length_lset]
theorem lsets_ne {k : Nat} : ∀ {wr : List (Nat × LObj)} {l : List LObj}, (¬ ∃ ob, (k, ob) ∈ wr) → lget (lsets l wr) k = lget l k
  | [], l, _ => rfl
  | p :: r, l, h => by
    have h1 : p.1 ≠ k := fun e => h ⟨p.2, by rw [← e]; simp⟩
    rw [lsets, lsets_ne (fun ⟨ob, ho⟩ => h ⟨ob, by simp [ho]⟩), lget_lset, if_neg (fun hh => h1 hh.1)]
theorem lsets_eq {k : Nat} : ∀ {wr : List (Nat × LObj)} {l l' : List LObj}, (∃ ob, (k, ob) ∈ wr) → l.length = l'.length → lget (lsets l wr) k = lget (lsets l' wr) k
  | [], l, l', h, _ => by obtain ⟨_, h⟩ := h; simp at h
  | p :: r, l, l', h, hl => by
    by_cases hr : ∃ ob, (k, ob) ∈ r
    · rw [lsets, lsets]
      exact lsets_eq hr (by rw [length_lset, length_lset, hl])
    · rw [lsets, lsets, lsets_ne hr, lsets_ne hr]
      obtain ⟨ob, ho⟩ := h
      rcases List.mem_cons.1 ho with ho | ho
      · rw [lget_lset, lget_lset, ← ho, hl]
        split
        · rfl
        · rename_i hn
          have hn : ¬ k < l'.length := fun hh => hn ⟨rfl, hh⟩
          rw [lget_eq, lget_eq, List.getElem?_eq_none (by omega), List.getElem?_eq_none (by omega)]
      · exact absurd ⟨ob, ho⟩ hr

def TE.slot (te : TE) (t : Nat) : Prop := t ∈ te.puts.map (·.1)
def TE.obj (te : TE) (k : Nat) : Prop := ∃ ob, (k, ob) ∈ te.wr
theorem app_len (te : TE) (s : DS) : (te.app s).loc.length = s.loc.length := lsets_len _ _
theorem app_slot_ne {te : TE} {s : DS} {t : Nat} (h : ¬ te.slot t) : look (te.app s).env t = look s.env t := look_notin h
theorem app_slot_eq {te : TE} {s s' : DS} {t : Nat} (h : te.slot t) : look (te.app s).env t = look (te.app s').env t := look_in h
theorem app_obj_ne {te : TE} {s : DS} {k : Nat} (h : ¬ te.obj k) : lget (te.app s).loc k = lget s.loc k := lsets_ne h
theorem app_obj_eq {te : TE} {s s' : DS} {k : Nat} (h : te.obj k) (hl : s.loc.length = s'.loc.length) : lget (te.app s).loc k = lget (te.app s').loc k := lsets_eq h hl
theorem app_congr {te : TE} {s s' : DS} (h1 : ∀ t, look s.env t = look s'.env t) (h2 : ∀ k, lget s.loc k = lget s'.loc k) (hl : s.loc.length = s'.loc.length) :
    (∀ t, look (te.app s).env t = look (te.app s').env t) ∧ ∀ k, lget (te.app s).loc k = lget (te.app s').loc k := by
  refine ⟨fun t => ?_, fun k => ?_⟩
  · by_cases h : te.slot t
    · exact app_slot_eq h
    · rw [app_slot_ne h, app_slot_ne h, h1]
  · by_cases h : te.obj k
    · exact app_obj_eq h hl
    · rw [app_obj_ne h, app_obj_ne h, h2]

/-- the state when of the first 'n' operations those in 'S' have come up -/
def stN (tr : List TE) (s0 : DS) (S : Nat → Bool) : Nat → DS
  | 0 => s0
  | n + 1 => match tr[n]?, S n with
    | some te, true => te.app (stN tr s0 S n)
    | _, _ => stN tr s0 S n
section
variable {tr : List TE} {s0 : DS} {S S' : Nat → Bool}
theorem stN_len : ∀ n, (stN tr s0 S n).loc.length = s0.loc.length
  | 0 => rfl
  | n + 1 => by
    unfold stN
    split
    · rw [app_len, stN_len n]
    · exact stN_len n
theorem stN_slot {t : Nat} : ∀ n, (∀ j te, j < n → tr[j]? = some te → te.slot t → S j = S' j) → look (stN tr s0 S n).env t = look (stN tr s0 S' n).env t
  | 0, _ => rfl
  | n + 1, h => by
    have ih := stN_slot n (fun j te hj => h j te (by omega))
    cases htr : tr[n]? with
    | none => simp only [stN, htr]; exact ih
    | some te =>
      by_cases hs : te.slot t
      · have := h n te (by omega) htr hs
        cases hS' : S' n <;> simp only [stN, htr, this, hS']
        · exact ih
        · exact app_slot_eq hs
      · cases hS : S n <;> cases hS' : S' n <;> simp only [stN, htr, hS, hS']
        all_goals first | (rw [app_slot_ne hs, app_slot_ne hs]; exact ih) | (rw [app_slot_ne hs]; exact ih) | exact ih
theorem stN_obj {k : Nat} : ∀ n, (∀ j te, j < n → tr[j]? = some te → te.obj k → S j = S' j) → lget (stN tr s0 S n).loc k = lget (stN tr s0 S' n).loc k
  | 0, _ => rfl
  | n + 1, h => by
    have ih := stN_obj n (fun j te hj => h j te (by omega))
    cases htr : tr[n]? with
    | none => simp only [stN, htr]; exact ih
    | some te =>
      by_cases hs : te.obj k
      · have := h n te (by omega) htr hs
        cases hS' : S' n <;> simp only [stN, htr, this, hS']
        · exact ih
        · exact app_obj_eq hs (by rw [stN_len, stN_len])
      · cases hS : S n <;> cases hS' : S' n <;> simp only [stN, htr, hS, hS']
        all_goals first | (rw [app_obj_ne hs, app_obj_ne hs]; exact ih) | (rw [app_obj_ne hs]; exact ih) | exact ih
theorem stN_same : ∀ n, (∀ j, j < n → S j = S' j) → stN tr s0 S n = stN tr s0 S' n
  | 0, _ => rfl
  | n + 1, h => by
    have ih := stN_same n (fun j hj => h j (by omega))
    simp only [stN, h n (by omega), ih]
theorem stN_below {m : Nat} : ∀ n, m ≤ n → (∀ j, m ≤ j → j < n → S j = false) → stN tr s0 S n = stN tr s0 S m
  | 0, hm, h => by
    have : m = 0 := by omega
    subst this; rfl
  | n + 1, hm, h => by
    by_cases e : m = n + 1
    · subst e; rfl
    · have ih := stN_below n (by omega) (fun j h1 h2 => h j h1 (by omega))
      have := h n (by omega) (by omega)
      simp only [stN, this]
      split
      · rename_i h2; cases h2
      · exact ih

/-- of two operations that clash the later one waits for the earlier one: 'anc i j' is "j comes up before i" -/
structure Ordered (tr : List TE) (looks : Nat → List Nat) (anc : Nat → Nat → Prop) : Prop where
  ps_ls : ∀ i j te t, i < j → tr[i]? = some te → te.slot t → t ∈ looks j → anc j i
  ls_ps : ∀ i j te t, i < j → tr[j]? = some te → te.slot t → t ∈ looks i → anc j i
  ps_ps : ∀ i j te te' t, i < j → tr[i]? = some te → tr[j]? = some te' → te.slot t → te'.slot t → anc j i
  wr_rd : ∀ i j te te' k, i < j → tr[i]? = some te → tr[j]? = some te' → te.obj k → (k ∈ te'.rd ∨ te'.obj k) → anc j i
  rd_wr : ∀ i j te te' k, i < j → tr[i]? = some te → tr[j]? = some te' → te'.obj k → k ∈ te.rd → anc j i

variable {looks : Nat → List Nat} {anc : Nat → Nat → Prop} {N i : Nat} {te : TE}
/-- what comes up finds what it finds in the text's order -/
theorem find_slot (hO : Ordered tr looks anc) (hdc : ∀ i j, S i = true → anc i j → S j = true) (hi : S i = false) (hr : ∀ j, anc i j → S j = true) (hiN : i < N) {t : Nat} (ht : t ∈ looks i) :
    look (stN tr s0 S N).env t = look (stN tr s0 (fun _ => true) i).env t := by
  have h1 : look (stN tr s0 S N).env t = look (stN tr s0 (fun j => decide (j < i)) N).env t := by
    refine stN_slot N (fun j te hj htr hs => ?_)
    rcases Nat.lt_trichotomy j i with hlt | rfl | hgt
    · rw [hr j (hO.ps_ls j i te t hlt htr hs ht)]; simp [hlt]
    · rw [hi]; simp
    · have : anc j i := hO.ls_ps i j te t hgt htr hs ht
      cases hS : S j with
      | false => simp; omega
      | true => exact absurd (hdc j i hS this) (by simp [hi])
  rw [h1, stN_below N (m := i) (by omega) (fun j h1 h2 => by simp; omega), stN_same i (S' := fun _ => true) (fun j hj => by simp [hj])]
theorem find_obj (hO : Ordered tr looks anc) (hdc : ∀ i j, S i = true → anc i j → S j = true) (hi : S i = false) (hr : ∀ j, anc i j → S j = true) (hiN : i < N) (hte : tr[i]? = some te) {k : Nat} (hk : k ∈ te.rd ∨ te.obj k) :
    lget (stN tr s0 S N).loc k = lget (stN tr s0 (fun _ => true) i).loc k := by
  have h1 : lget (stN tr s0 S N).loc k = lget (stN tr s0 (fun j => decide (j < i)) N).loc k := by
    refine stN_obj N (fun j te' hj htr hs => ?_)
    rcases Nat.lt_trichotomy j i with hlt | rfl | hgt
    · rw [hr j (hO.wr_rd j i te' te k hlt htr hte hs hk)]; simp [hlt]
    · rw [hi]; simp
    · have : anc j i := by
        rcases hk with hk | hk
        · exact hO.rd_wr i j te te' k hgt hte htr hs hk
        · exact hO.wr_rd i j te te' k hgt hte htr hk (.inr hs)
      cases hS : S j with
      | false => simp; omega
      | true => exact absurd (hdc j i hS this) (by simp [hi])
  rw [h1, stN_below N (m := i) (by omega) (fun j h1 h2 => by simp; omega), stN_same i (S' := fun _ => true) (fun j hj => by simp [hj])]
/-- one more has come up -/
theorem next_slot (hO : Ordered tr looks anc) (hdc : ∀ i j, S i = true → anc i j → S j = true) (hi : S i = false) (hiN : i < N) (hte : tr[i]? = some te) (t : Nat) :
    look (stN tr s0 (fun j => S j || decide (j = i)) N).env t = look (te.app (stN tr s0 S N)).env t := by
  by_cases hs : te.slot t
  · have h1 : look (stN tr s0 (fun j => S j || decide (j = i)) N).env t = look (stN tr s0 (fun j => (S j || decide (j = i)) && decide (j ≤ i)) N).env t := by
      refine stN_slot N (fun j te' hj htr hs' => ?_)
      by_cases hle : j ≤ i
      · simp [hle]
      · have : anc j i := hO.ps_ps i j te te' t (by omega) hte htr hs hs'
        cases hS : S j with
        | false => simp [hle]; omega
        | true => exact absurd (hdc j i hS this) (by simp [hi])
    rw [h1, stN_below N (m := i + 1) (by omega) (fun j h1 h2 => by simp; omega)]
    simp only [stN, hte, hi, Bool.false_or, decide_true, Bool.true_and, Nat.le_refl]
    exact app_slot_eq hs
  · rw [app_slot_ne hs]
    refine stN_slot N (fun j te' hj htr hs' => ?_)
    by_cases e : j = i
    · subst e; rw [hte] at htr; cases htr; exact absurd hs' hs
    · simp [e]
theorem next_obj (hO : Ordered tr looks anc) (hdc : ∀ i j, S i = true → anc i j → S j = true) (hi : S i = false) (hiN : i < N) (hte : tr[i]? = some te) (k : Nat) :
    lget (stN tr s0 (fun j => S j || decide (j = i)) N).loc k = lget (te.app (stN tr s0 S N)).loc k := by
  by_cases hs : te.obj k
  · have h1 : lget (stN tr s0 (fun j => S j || decide (j = i)) N).loc k = lget (stN tr s0 (fun j => (S j || decide (j = i)) && decide (j ≤ i)) N).loc k := by
      refine stN_obj N (fun j te' hj htr hs' => ?_)
      by_cases hle : j ≤ i
      · simp [hle]
      · have : anc j i := hO.wr_rd i j te te' k (by omega) hte htr hs (.inr hs')
        cases hS : S j with
        | false => simp [hle]; omega
        | true => exact absurd (hdc j i hS this) (by simp [hi])
    rw [h1, stN_below N (m := i + 1) (by omega) (fun j h1 h2 => by simp; omega)]
    simp only [stN, hte, hi, Bool.false_or, decide_true, Bool.true_and, Nat.le_refl]
    exact app_obj_eq hs (by rw [stN_len, stN_len])
  · rw [app_obj_ne hs]
    refine stN_obj N (fun j te' hj htr hs' => ?_)
    by_cases e : j = i
    · subst e; rw [hte] at htr; cases htr; exact absurd hs' hs
    · simp [e]
end

/-! ## the checks -/
section
variable {ops : Array Oper}
inductive Reach (ops : Array Oper) : Nat → Nat → Prop
  | edge {i : Nat} {o : Oper} {e : Edge} (ho : ops[i]? = some o) (he : e ∈ o.after) (hb : Region.binds .any e = true) : Reach ops i e.on
  | trans {i j k : Nat} (h : Reach ops i j) (h' : Reach ops j k) : Reach ops i k
theorem mask_ok {acc : List Nat} : ∀ {l : List Edge} {m j : Nat}, Nat.testBit (maskOf acc l m) j = true → Nat.testBit m j = true ∨ ∃ e ∈ l, Region.binds .any e = true ∧ (e.on = j ∨ Nat.testBit (acc.getD e.on 0) j = true)
  | [], m, j, h => .inl h
  | e :: r, m, j, h => by
    unfold maskOf at h
    split at h
    · rename_i hb
      rcases mask_ok h with h | ⟨e', he', hb', hj⟩
      · have h : Nat.testBit (m ||| (2 ^ e.on ||| acc.getD e.on 0)) j = true := h
        rw [Nat.testBit_or, Nat.testBit_or, Nat.testBit_two_pow] at h
        simp only [Bool.or_eq_true, decide_eq_true_eq] at h
        rcases h with h | h | h
        · exact .inl h
        · exact .inr ⟨e, by simp, hb, .inl h⟩
        · exact .inr ⟨e, by simp, hb, .inr h⟩
      · exact .inr ⟨e', by simp [he'], hb', hj⟩
    · rcases mask_ok h with h | ⟨e', he', hb', hj⟩
      · exact .inl h
      · exact .inr ⟨e', by simp [he'], hb', hj⟩
def Good (ops : Array Oper) (acc : List Nat) : Prop := ∀ i j, Nat.testBit (acc.getD i 0) j = true → Reach ops i j
theorem masks_ok : ∀ {l : List Oper} {acc : List Nat}, ops.toList.drop acc.length = l → Good ops acc → Good ops (masks l acc)
  | [], acc, _, h => h
  | o :: r, acc, hl, h => by
    have ho : ops[acc.length]? = some o := by
      have : (ops.toList.drop acc.length)[0]? = some o := by rw [hl]; rfl
      simpa using this
    refine masks_ok (l := r) ?_ (fun i j hij => ?_)
    · rw [List.length_append, List.length_singleton, ← List.drop_drop, hl]; rfl
    · rcases Nat.lt_trichotomy i acc.length with hlt | rfl | hgt
      · rw [List.getD_eq_getElem?_getD, List.getElem?_append_left hlt, ← List.getD_eq_getElem?_getD] at hij
        exact h i j hij
      · have : (acc ++ [maskOf acc o.after.toList 0]).getD acc.length 0 = maskOf acc o.after.toList 0 := by simp
        rw [this] at hij
        rcases mask_ok hij with h0 | ⟨e, he, hb, hj⟩
        · simp at h0
        · have he' : e ∈ o.after := by simpa using he
          rcases hj with rfl | hj
          · exact .edge ho he' hb
          · exact .trans (.edge ho he' hb) (h _ _ hj)
      · have : (acc ++ [maskOf acc o.after.toList 0]).getD i 0 = 0 := by
          rw [List.getD_eq_getElem?_getD, List.getElem?_eq_none (by simp; omega)]; rfl
        rw [this] at hij
        simp at hij
theorem masks_len : ∀ {l : List Oper} {acc : List Nat}, (masks l acc).length = acc.length + l.length
  | [], acc => by simp [masks]
  | o :: r, acc => by rw [masks, masks_len]; simp; omega
theorem meets_of {l r : List Nat} {x : Nat} (h1 : x ∈ l) (h2 : x ∈ r) : meets l r = true := by
  simp only [meets, List.any_eq_true]
  exact ⟨x, h1, x, h2, by simp⟩
theorem rowOk_get {f : Foot} {i : Nat} : ∀ {fs : List Foot} {ms : List Nat} {j : Nat} {g : Foot} {m : Nat}, rowOk f i fs ms = true → fs[j]? = some g → ms[j]? = some m → clash f g = true → Nat.testBit m i = true
  | [], _, j, g, m, _, hg, _, _ => by simp at hg
  | _ :: _, [], j, g, m, _, _, hm, _ => by simp at hm
  | g' :: r, m' :: ms, 0, g, m, h, hg, hm, hc => by
    simp at hg hm
    subst hg; subst hm
    simp only [rowOk, Bool.and_eq_true, Bool.or_eq_true, Bool.not_eq_true'] at h
    rcases h.1 with h1 | h1
    · rw [hc] at h1; cases h1
    · exact h1
  | g' :: r, m' :: ms, j + 1, g, m, h, hg, hm, hc => by
    simp only [rowOk, Bool.and_eq_true] at h
    exact rowOk_get (j := j) h.2 (by simpa using hg) (by simpa using hm) hc
theorem pairsOk_get : ∀ {fs : List Foot} {ms : List Nat} {b i j : Nat} {f g : Foot} {m : Nat}, pairsOk b fs ms = true → i < j → fs[i]? = some f → fs[j]? = some g → ms[j]? = some m → clash f g = true → Nat.testBit m (b + i) = true
  | [], _, b, i, j, f, g, m, _, _, hf, _, _, _ => by simp at hf
  | _ :: _, [], b, i, j, f, g, m, _, _, _, _, hm, _ => by simp at hm
  | f' :: r, m' :: ms, b, 0, j + 1, f, g, m, h, hij, hf, hg, hm, hc => by
    simp at hf
    subst hf
    simp only [pairsOk, Bool.and_eq_true] at h
    exact rowOk_get (j := j) h.1 (by simpa using hg) (by simpa using hm) hc
  | f' :: r, m' :: ms, b, i + 1, j + 1, f, g, m, h, hij, hf, hg, hm, hc => by
    simp only [pairsOk, Bool.and_eq_true] at h
    have := pairsOk_get (i := i) (j := j) h.2 (by omega) (by simpa using hf) (by simpa using hg) (by simpa using hm) hc
    rwa [Nat.add_assoc, Nat.add_comm 1 i] at this
  | f' :: r, m' :: ms, b, i, 0, f, g, m, h, hij, hf, hg, hm, hc => by omega
theorem feet_get : ∀ {l : List Oper} {tr : List TE} {i : Nat} {o : Oper} {te : TE}, l[i]? = some o → tr[i]? = some te → (feet ops l tr)[i]? = some (footOf ops o te)
  | [], _, i, o, te, h, _ => by simp at h
  | _ :: _, [], i, o, te, _, h => by simp at h
  | o' :: r, te' :: tr, 0, o, te, h, h' => by simp at h h'; subst h; subst h'; rfl
  | o' :: r, te' :: tr, i + 1, o, te, h, h' => by
    simp only [feet, List.getElem?_cons_succ]
    exact feet_get (by simpa using h) (by simpa using h')
theorem edges_get : ∀ {l : List Oper} {b i : Nat} {o : Oper}, edgesDown l b = true → l[i]? = some o → ∀ e ∈ o.after, Region.binds .any e = true → e.on < b + i
  | [], b, i, o, _, h, _, _, _ => by simp at h
  | o' :: r, b, 0, o, hd, h, e, he, hb => by
    simp at h
    subst h
    simp only [edgesDown, Bool.and_eq_true, List.all_eq_true] at hd
    have := hd.1 e (by simpa using he)
    rw [hb] at this
    have this : e.on < b := by simpa using this
    omega
  | o' :: r, b, i + 1, o, hd, h, e, he, hb => by
    simp only [edgesDown, Bool.and_eq_true] at hd
    have := edges_get (i := i) hd.2 (by simpa using h) e he hb
    omega

def looksOf (ops : Array Oper) (i : Nat) : List Nat :=
  match ops[i]? with
  | some o => o.looksAt ops
  | none => []
theorem ordered_of {tr : List TE} (hl : tr.length = ops.size) (h : regOk ops tr = true) : Ordered tr (looksOf ops) (Reach ops) := by
  simp only [regOk, Bool.and_eq_true] at h
  have hgood : Good ops (masks ops.toList []) := masks_ok (by simp) (fun i j hij => by simp at hij)
  have key : ∀ i j te te' o o', i < j → tr[i]? = some te → tr[j]? = some te' → ops[i]? = some o → ops[j]? = some o' → clash (footOf ops o te) (footOf ops o' te') = true → Reach ops j i := by
    intro i j te te' o o' hij h1 h2 h3 h4 hc
    have hj : j < (masks ops.toList []).length := by
      rw [masks_len]
      have := (Array.getElem?_eq_some_iff.1 h4).1
      simpa using this
    have := pairsOk_get h.2 hij (feet_get (by simpa using h3) h1) (feet_get (by simpa using h4) h2) (List.getElem?_eq_getElem hj) hc
    rw [Nat.zero_add] at this
    refine hgood j i ?_
    rwa [List.getD_eq_getElem?_getD, List.getElem?_eq_getElem hj]
  have getop : ∀ {i : Nat} {te : TE}, tr[i]? = some te → ∃ o, ops[i]? = some o := by
    intro i te hi
    have := (List.getElem?_eq_some_iff.1 hi).1
    exact ⟨ops[i], Array.getElem?_eq_getElem (by omega)⟩
  have looks : ∀ {i t : Nat}, t ∈ looksOf ops i → ∃ o te, ops[i]? = some o ∧ tr[i]? = some te ∧ t ∈ o.looksAt ops := by
    intro i t ht
    unfold looksOf at ht
    split at ht
    · rename_i o ho
      have := (Array.getElem?_eq_some_iff.1 ho).1
      exact ⟨o, tr[i]'(by omega), ho, List.getElem?_eq_getElem (by omega), ht⟩
    · simp at ht
  have wrIn : ∀ {te : TE} {o : Oper} {k : Nat}, te.obj k → k ∈ (footOf ops o te).wr := by
    rintro te o k ⟨ob, h⟩
    exact List.mem_map.2 ⟨_, h, rfl⟩
  refine ⟨fun i j te t hij h1 hs ht => ?_, fun i j te t hij h1 hs ht => ?_, fun i j te te' t hij h1 h2 hs hs' => ?_, fun i j te te' k hij h1 h2 hk hk' => ?_, fun i j te te' k hij h1 h2 hk hk' => ?_⟩
  · obtain ⟨o', te', ho', hte', ht⟩ := looks ht
    obtain ⟨o, ho⟩ := getop h1
    refine key i j te te' o o' hij h1 hte' ho ho' ?_
    simp only [clash, Bool.or_eq_true]
    exact .inl (.inl (.inl (meets_of (l := (footOf ops o te).ps) hs (by simp [footOf, ht]))))
  · obtain ⟨o, te', ho, hte', ht⟩ := looks ht
    obtain ⟨o', ho'⟩ := getop h1
    refine key i j te' te o o' hij hte' h1 ho ho' ?_
    simp only [clash, Bool.or_eq_true]
    exact .inl (.inl (.inr (meets_of (l := (footOf ops o te').ls) ht hs)))
  · obtain ⟨o, ho⟩ := getop h1
    obtain ⟨o', ho'⟩ := getop h2
    refine key i j te te' o o' hij h1 h2 ho ho' ?_
    simp only [clash, Bool.or_eq_true]
    exact .inl (.inl (.inl (meets_of (l := (footOf ops o te).ps) hs (List.mem_append.2 (.inr hs')))))
  · obtain ⟨o, ho⟩ := getop h1
    obtain ⟨o', ho'⟩ := getop h2
    refine key i j te te' o o' hij h1 h2 ho ho' ?_
    simp only [clash, Bool.or_eq_true]
    refine .inl (.inr (meets_of (x := k) (wrIn hk) (List.mem_append.2 ?_)))
    rcases hk' with hk' | hk'
    · exact .inl hk'
    · exact .inr (wrIn hk')
  · obtain ⟨o, ho⟩ := getop h1
    obtain ⟨o', ho'⟩ := getop h2
    refine key i j te te' o o' hij h1 h2 ho ho' ?_
    simp only [clash, Bool.or_eq_true]
    exact .inr (meets_of (l := (footOf ops o te).rd) hk' (wrIn hk))
end
end Go.Lift
