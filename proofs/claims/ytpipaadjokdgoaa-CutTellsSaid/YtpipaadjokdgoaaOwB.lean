/- The laws of this seat, part OwB: contracts of the functions, plain laws. No conditions. -/
import Derived.Test.YtpipaadjokdgoaaOwA
import Derived.Shelf.Lays
import Derived.Shelf.Lays2
import Derived.Test.YtpipaadjokdgoaaProg
import Derived.Test.YtpipaadjokdgoaaLfE
set_option linter.unusedSimpArgs false
set_option linter.unusedVariables false
set_option maxRecDepth 100000
namespace Go.Proofs.Ytpipaadjokdgoaa
open Go.Lift
/-! sets of alerts: plain facts -/
theorem less_irr (a : Alr) : lessB a a = false := by simp [lessB]
theorem less_trans {a b c : Alr} (h1 : lessB a b = true) (h2 : lessB b c = true) : lessB a c = true := by
  simp only [lessB, Bool.or_eq_true, Bool.and_eq_true, decide_eq_true_eq] at *
  omega
theorem less_tot {a b : Alr} (h1 : lessB a b = false) (h2 : lessB b a = false) : a.subj = b.subj ∧ a.ring = b.ring := by
  simp only [lessB, Bool.or_eq_false_iff, Bool.and_eq_false_iff, decide_eq_false_iff_not] at *
  omega
def srt (l : List Alr) : Prop := l.Pairwise fun a b => lessB a b = true
theorem srt_adj {l : List Alr} (h : ∀ i (hi : i + 1 < l.length), lessB l[i] l[i + 1] = true) : srt l := by
  rw [srt, List.pairwise_iff_getElem]
  intro i j hi hj hij
  obtain ⟨d, rfl⟩ : ∃ d, j = i + 1 + d := ⟨j - (i + 1), by omega⟩
  clear hij
  induction d with
  | zero => exact h i hj
  | succ d ih =>
    have h1 := ih (by omega)
    have h2 := h (i + 1 + d) (by omega)
    exact less_trans h1 h2
theorem valS_iff {v : View} {l : List Alr} : valS v l = true ↔ viewB v = true ∧ (∀ a ∈ l, valA v a = true) ∧ srt l := by
  unfold valS
  cases hv : viewB v
  · simp
  · rw [Bool.not_true, cond_false, allB_true]
    constructor
    · intro h
      refine ⟨rfl, fun a ha => ?_, srt_adj fun i hi => ?_⟩
      · obtain ⟨i, hi, rfl⟩ := List.getElem_of_mem ha
        have h1 := h i hi
        have hg : l.getD i alr0 = l[i] := by simp [hi]
        unfold okS at h1
        rw [hg, Bool.and_eq_true] at h1
        exact h1.1
      · have h1 := h (i + 1) hi
        have hg : l.getD (i + 1) alr0 = l[i + 1] := by simp [hi]
        have hi0 : i < l.length := by omega
        have hg2 : l.getD (i + 1 - 1) alr0 = l[i] := by simp [hi0]
        unfold okS at h1
        rw [hg, hg2, Bool.and_eq_true, decide_eq_true (show (0 : Int) < ((i + 1 : Nat) : Int) by omega)] at h1
        simpa using h1.2
    · rintro ⟨_, h1, h2⟩ i hi
      have hg : l.getD i alr0 = l[i] := by simp [hi]
      unfold okS
      rw [hg, h1 _ (List.getElem_mem hi), Bool.true_and]
      by_cases h0 : 0 < i
      · have hi0 : i - 1 < l.length := by omega
        have hg2 : l.getD (i - 1) alr0 = l[i - 1] := by simp [hi0]
        have := List.pairwise_iff_getElem.1 h2 (i - 1) i hi0 hi (by omega)
        rw [hg2, this]
        simp
      · rw [decide_eq_false (by omega)]
        rfl
theorem tw_mem {α : Type} {p : α → Bool} {x : α} : ∀ {l : List α}, x ∈ l.takeWhile p → p x = true
  | [], h => by simp at h
  | y :: t, h => by
    rw [List.takeWhile_cons] at h
    split at h
    · rename_i hy
      rcases List.mem_cons.1 h with rfl | h
      · exact hy
      · exact tw_mem h
    · simp at h
theorem tw_before {α : Type} {p : α → Bool} {l : List α} {x : α} (h : x ∈ l.take (l.takeWhile p).length) : p x = true := by
  rw [← List.prefix_iff_eq_take.1 (List.takeWhile_prefix p)] at h
  exact tw_mem h
theorem tw_at {α : Type} {p : α → Bool} : ∀ {l : List α} (h : (l.takeWhile p).length < l.length), p (l[(l.takeWhile p).length]) = false
  | [], h => by simp at h
  | x :: t, h => by
    cases hx : p x
    · simp [List.takeWhile_cons, hx]
    · have h2 : (t.takeWhile p).length < t.length := by
        simpa [List.takeWhile_cons, hx] using h
      have := tw_at (p := p) h2
      simpa [List.takeWhile_cons, hx] using this
theorem ins_srt {l : List Alr} (hs : srt l) (a : Alr) : srt (insR l a).1 ∧ (insR l a).1.length ≤ l.length + 1 ∧ (∀ x, x ∈ (insR l a).1 → x ∈ l ∨ x = a) ∧ (∀ x, x ∈ l → x ∈ (insR l a).1) ∧ (a ∈ (insR l a).1 ∨ ∃ e ∈ l, e.subj = a.subj ∧ e.ring = a.ring) := by
  have hb : ∀ x ∈ l.take (insK l a), lessB x a = true := fun x hx => tw_before (p := fun y => lessB y a) hx
  have hat : ∀ h : insK l a < l.length, lessB l[insK l a] a = false := fun h => tw_at (p := fun y => lessB y a) h
  have hkl : insK l a ≤ l.length := (List.takeWhile_prefix _).length_le
  unfold insR
  generalize insK l a = k at *
  by_cases hk : k < l.length
  · have hg : l.getD k alr0 = l[k] := by simp [hk]
    rw [decide_eq_true (show ((k : Nat) : Int) < (l.length : Int) by omega), hg]
    cases hl : lessB a l[k]
    · simp only [Bool.not_false, Bool.and_self, cond_true]
      have := less_tot (hat hk) hl
      exact ⟨hs, by omega, fun x h => .inl h, fun x h => h, .inr ⟨_, List.getElem_mem hk, this⟩⟩
    · simp only [Bool.not_true, Bool.and_false, cond_false]
      refine ⟨?_, by simp; omega, ?_, ?_, .inl (by simp)⟩
      · rw [srt, List.append_assoc, List.pairwise_append]
        refine ⟨hs.sublist (List.take_sublist _ _), ?_, ?_⟩
        · rw [List.singleton_append, List.pairwise_cons]
          refine ⟨fun y hy => ?_, hs.sublist (List.drop_sublist _ _)⟩
          obtain ⟨j, hj, rfl⟩ := List.getElem_of_mem hy
          rw [List.getElem_drop]
          rw [List.length_drop] at hj
          rcases Nat.eq_zero_or_pos j with rfl | hj0
          · exact hl
          · exact less_trans hl (List.pairwise_iff_getElem.1 hs k (k + j) hk (by omega) (by omega))
        · intro x hx y hy
          rw [List.singleton_append, List.mem_cons] at hy
          have h1 := hb x hx
          rcases hy with rfl | hy
          · exact h1
          · obtain ⟨j, hj, rfl⟩ := List.getElem_of_mem hy
            rw [List.getElem_drop]
            rw [List.length_drop] at hj
            rcases Nat.eq_zero_or_pos j with rfl | hj0
            · exact less_trans h1 hl
            · exact less_trans h1 (less_trans hl (List.pairwise_iff_getElem.1 hs k (k + j) hk (by omega) (by omega)))
      · intro x hx
        simp only [List.append_assoc, List.singleton_append, List.mem_append, List.mem_cons] at hx
        rcases hx with h | h | h
        · exact .inl (List.mem_of_mem_take h)
        · exact .inr h
        · exact .inl (List.mem_of_mem_drop h)
      · intro x hx
        rw [← List.take_append_drop k l, List.mem_append] at hx
        simp only [List.append_assoc, List.singleton_append, List.mem_append, List.mem_cons]
        rcases hx with h | h
        · exact .inl h
        · exact .inr (.inr h)
  · have hkk : k = l.length := by omega
    rw [decide_eq_false (show ¬ ((k : Nat) : Int) < (l.length : Int) by omega), Bool.false_and, cond_false]
    subst hkk
    rw [List.take_length] at hb
    refine ⟨?_, by simp, ?_, ?_, .inl (by simp)⟩
    · rw [List.take_length, List.drop_length, List.append_nil, srt, List.pairwise_append]
      refine ⟨hs, by simp, fun x hx y hy => ?_⟩
      rw [List.mem_singleton] at hy
      subst hy
      exact hb x hx
    · intro x hx
      simpa using hx
    · intro x hx
      simp [hx]
end Go.Proofs.Ytpipaadjokdgoaa

set_option linter.unusedSimpArgs false
set_option linter.unusedVariables false
set_option maxRecDepth 100000
namespace Go.Proofs.Ytpipaadjokdgoaa
open Go.Lift
theorem valA_parts {v : View} {a : Alr} (h : valA v a = true) : viewB v = true ∧ a.view = v.num ∧ ranB a = true ∧ a.ring < ((obsR v.mem a.subj).length : Int) ∧ (obsR v.mem a.subj).getD a.ring.toNat 0 = a.obs := by
  unfold valA at h
  cases hc : (!viewB v || !decide (a.view = v.num) || !ranB a)
  · rw [hc, cond_false, Bool.and_eq_true, decide_eq_true_eq, decide_eq_true_eq] at h
    simp only [Bool.or_eq_false_iff, Bool.not_eq_false', decide_eq_true_eq] at hc
    exact ⟨hc.1.1, hc.1.2, hc.2, h.1, h.2⟩
  · rw [hc] at h
    simp at h
theorem val_key {v : View} {a b : Alr} (ha : valA v a = true) (hb : valA v b = true) (h1 : a.subj = b.subj) (h2 : a.ring = b.ring) : a = b := by
  have pa := valA_parts ha
  have pb := valA_parts hb
  obtain ⟨av, ar, ao, sa⟩ := a
  obtain ⟨bv, br, bo, sb⟩ := b
  simp only [] at *
  subst h1 h2
  have e1 : av = bv := pa.2.1.trans pb.2.1.symm
  have e2 : ao = bo := pa.2.2.2.2.symm.trans pb.2.2.2.2
  rw [e1, e2]
def gatR (A : List Alr) (i : Nat) : List Alr := (A.take i).foldl (fun acc a => (insR acc a).1) []
theorem gat_succ {A : List Alr} {i : Nat} (h : i < A.length) : gatR A (i + 1) = (insR (gatR A i) A[i]).1 := by
  unfold gatR
  rw [List.take_succ_eq_append_getElem h, List.foldl_append]
  rfl
theorem gat_ok {v : View} {A : List Alr} (hA : ∀ a ∈ A, valA v a = true) : ∀ i, i ≤ A.length → srt (gatR A i) ∧ (gatR A i).length ≤ i ∧ ∀ x, x ∈ gatR A i ↔ x ∈ A.take i
  | 0, _ => by simp [gatR, srt]
  | i + 1, hi => by
    obtain ⟨h1, h2, h3⟩ := gat_ok hA i (by omega)
    have hil : i < A.length := by omega
    rw [gat_succ hil, List.take_succ_eq_append_getElem hil]
    obtain ⟨g1, g2, g3, g4, g5⟩ := ins_srt h1 A[i]
    refine ⟨g1, by omega, fun x => ?_⟩
    rw [List.mem_append, List.mem_singleton]
    constructor
    · intro hx
      rcases g3 x hx with h | h
      · exact .inl ((h3 x).1 h)
      · exact .inr h
    · rintro (hx | rfl)
      · exact g4 x ((h3 x).2 hx)
      · rcases g5 with h | ⟨e, he, hk1, hk2⟩
        · exact h
        · have hev := hA e (List.mem_of_mem_take ((h3 e).1 he))
          have := val_key hev (hA _ (List.getElem_mem hil)) hk1 hk2
          have hh := g4 e he
          rw [this] at hh
          exact hh
theorem srt_ext {a b : List Alr} (ha : srt a) (hb : srt b) (h : ∀ x, x ∈ a ↔ x ∈ b) : a = b := by
  have na : a.Nodup := ha.imp fun {x y} hxy he => by
    subst he
    rw [less_irr] at hxy
    exact absurd hxy (by simp)
  have nb : b.Nodup := hb.imp fun {x y} hxy he => by
    subst he
    rw [less_irr] at hxy
    exact absurd hxy (by simp)
  have hp : a.Perm b := (List.perm_ext_iff_of_nodup na nb).2 h
  exact hp.eq_of_pairwise (le := fun x y => lessB x y = true) (fun x y _ _ h1 h2 => by
    have := less_trans h1 h2
    rw [less_irr] at this
    exact absurd this (by simp)) ha hb
theorem add_ok {v : View} {l : List Alr} {a : Alr} (hl : valS v l = true) (ha : valA v a = true) : addR v l a = ((insR l a).1, (insR l a).2, 0) := by
  have hp := valA_parts ha
  unfold addR
  rw [hl, ha, hp.2.2.1, decide_eq_true hp.2.1]
  rfl
end Go.Proofs.Ytpipaadjokdgoaa

set_option linter.unusedSimpArgs false
set_option linter.unusedVariables false
set_option maxRecDepth 100000
namespace Go.Proofs.Ytpipaadjokdgoaa
open Go.Lift
theorem prv_mem {ms : List Int} {x : Int} {r : Nat} (hv : idsB ms 16 = true) (hr : r < 5) : prvR ms x r ∈ ms := by
  have hO := order_lt (r := (r : Nat)) hv (by omega) (by omega)
  have ho := order_in (ms := ms) (r := (r : Nat)) hv (by omega) (by omega)
  have hol : (orderR ms (r : Nat)).length = ms.length := by rw [ho, sortL_len]
  have h16 := (ids_pw.1 hv).1
  have hmem : ∀ m, m ∈ orderR ms (r : Nat) ↔ m ∈ ms := fun m => by rw [ho, sortL_mem]
  unfold prvR
  generalize orderR ms (r : Nat) = O at *
  exact (hmem _).1 (ahd_min (x := x) hO (by omega) O.length (Nat.le_refl _)).1
theorem obs_five {ms : List Int} {x : Int} (h : (obsR ms x).length = 5) : idsB ms 16 = true ∧ 1 ≤ x ∧ x ≤ 1000 ∧ obsR ms x = (List.range 5).map (prvR ms x) := by
  have ho : obsR ms x = bif !idsB ms 16 || !(decide (1 ≤ x) && decide (x ≤ 1000)) || (decide ((ms.length : Int) = 1) && decide (ms.getD 0 0 = x)) then [] else (List.range 5).map (prvR ms x) := rfl
  cases hc : (!idsB ms 16 || !(decide (1 ≤ x) && decide (x ≤ 1000)) || (decide ((ms.length : Int) = 1) && decide (ms.getD 0 0 = x)))
  · rw [hc, cond_false] at ho
    rw [Bool.or_eq_false_iff, Bool.or_eq_false_iff, Bool.not_eq_false', Bool.not_eq_false', Bool.and_eq_true, decide_eq_true_eq, decide_eq_true_eq] at hc
    exact ⟨hc.1.1, hc.1.2.1, hc.1.2.2, ho⟩
  · rw [hc, cond_true] at ho
    rw [ho] at h
    simp at h
theorem pair_val {v : View} (hvw : viewB v = true) {c : Nat} : ∀ a ∈ pairOf v c, valA v a = true := by
  intro a ha
  unfold pairOf at ha
  cases hd : decide (((obsR v.mem (subOf v c)).length : Int) = 5)
  · rw [hd] at ha
    simp at ha
  · rw [hd, cond_true, List.mem_singleton] at ha
    have h5 : (obsR v.mem (subOf v c)).length = 5 := by
      have := of_decide_eq_true hd
      omega
    obtain ⟨hv, hx1, hx2, ho⟩ := obs_five h5
    have hr : c % 8 % 5 < 5 := Nat.mod_lt _ (by decide)
    have hg : (obsR v.mem (subOf v c)).getD (c % 8 % 5) 0 = prvR v.mem (subOf v c) (c % 8 % 5) := by
      rw [ho]
      simp [hr]
    have hm := (ids_pw.1 hv).2.2 _ (prv_mem (x := subOf v c) hv hr)
    subst ha
    rw [hg]
    unfold valA
    have hran : ranB ⟨v.num, ((c % 8 % 5 : Nat) : Int), prvR v.mem (subOf v c) (c % 8 % 5), subOf v c⟩ = true := by
      simp only [ranB, Bool.and_eq_true, decide_eq_true_eq]
      omega
    rw [hvw, hran]
    simp only [decide_true, Bool.not_true, Bool.or_self, cond_false, Int.toNat_natCast, hg, h5, Bool.and_true]
    exact decide_eq_true (by omega)
theorem pairs_val {v : View} (hvw : viewB v = true) (l : List Nat) (i : Nat) : ∀ a ∈ pairsR v l i, valA v a = true := by
  intro a ha
  unfold pairsR at ha
  obtain ⟨c, _, hc⟩ := List.mem_flatMap.1 ha
  exact pair_val hvw a hc
def eqA (g a : Alr) : Bool := decide (g.view = a.view) && (decide (g.ring = a.ring) && (decide (g.obs = a.obs) && (decide (g.subj = a.subj) && true)))
theorem dat_u16s {n : Nat} {r : List DV} (h : Dat tt (n + 2) 37 r) : ∃ l : List Nat, r = [.lst 1 (l.map bE16) false] ∧ l.length ≤ maxLen ∧ ∀ x ∈ l, x ≤ 65535 := by
  obtain ⟨es, rfl, hl, hes⟩ := h
  obtain ⟨d, rfl, hd⟩ := list_data (f := bE16) (Q := fun x => x ≤ 65535) (fun r hr => by
    obtain ⟨i, rfl, hi⟩ := hes r hr
    have hb := bounds_u16 (by exact hi)
    exact ⟨i.toNat, by simp only [bE16]; rw [Int.toNat_of_nonneg (by omega)], by omega⟩)
  exact ⟨d, rfl, by simpa using hl, hd⟩
end Go.Proofs.Ytpipaadjokdgoaa

/-
  DERIVED: THE SHELF's CONTRACTS AT THIS DUMP, IN PLAIN WORDS (tools/lay-plain.mjs out of 'YtpipaadjokdgoaaShelf.lean', which tools/lay-shelf.mjs wrote): THE SAME DECLARATIONS UNDER THE SAME NAMES: 'import', 'namespace', 'open', 'def', 'theorem' AND NOTHING ELSE: no command of the shelf's: FOR A HAND-IN. Each laying: the table of numbers ('.._ren') and one theorem, a field a fact of the dump's own or the kernel's comparison; each contract: ONE APPLICATION.
-/
namespace Go.Proofs
open Go.Shelf
def Try.srtI_ren : Go.Shelf.Ren := ⟨fun | 189 => 48 | 125 => 65 | 257 => 64 | 128 => 84 | 129 => 85 | 294 => 75 | 295 => 76 | 296 => 77 | 297 => 78 | 298 => 79 | 299 => 80 | 216 => 81 | 300 => 82 | 301 => 83 | 328 => 89 | 329 => 90 | 330 => 91 | 331 => 92 | 332 => 93 | 215 => 94 | 343 => 96 | n => n, fun | 28 => 22 | 3 => 3 | 46 => 43 | 0 => 0 | 51 => 91 | 53 => 71 | 4 => 4 | 183 => 83 | 182 => 82 | 131 => 88 | 5 => 5 | 9 => 9 | 218 => 95 | 222 => 99 | 228 => 101 | 229 => 102 | n => n, fun | n => n⟩
theorem Try.srtI : Go.Proofs.Lays.n189 Try.prog Try.srtI_ren := {
  mixed := by kernel_rfl
  f125 := Try.func65.trans (congrArg some (by kernel_rfl))
  f128 := Try.func84.trans (congrArg some (by kernel_rfl))
  f129 := Try.func85.trans (congrArg some (by kernel_rfl))
  f189 := Try.func48.trans (congrArg some (by kernel_rfl))
  f215 := Try.func94.trans (congrArg some (by kernel_rfl))
  f216 := Try.func81.trans (congrArg some (by kernel_rfl))
  f257 := Try.func64.trans (congrArg some (by kernel_rfl))
  f294 := Try.func75.trans (congrArg some (by kernel_rfl))
  f295 := Try.func76.trans (congrArg some (by kernel_rfl))
  f296 := Try.func77.trans (congrArg some (by kernel_rfl))
  f297 := Try.func78.trans (congrArg some (by kernel_rfl))
  f298 := Try.func79.trans (congrArg some (by kernel_rfl))
  f299 := Try.func80.trans (congrArg some (by kernel_rfl))
  f300 := Try.func82.trans (congrArg some (by kernel_rfl))
  f301 := Try.func83.trans (congrArg some (by kernel_rfl))
  f328 := Try.func89.trans (congrArg some (by kernel_rfl))
  f329 := Try.func90.trans (congrArg some (by kernel_rfl))
  f330 := Try.func91.trans (congrArg some (by kernel_rfl))
  f331 := Try.func92.trans (congrArg some (by kernel_rfl))
  f332 := Try.func93.trans (congrArg some (by kernel_rfl))
  f343 := Try.func96.trans (congrArg some (by kernel_rfl))
  t0 := Try.underlying0
  a0 := Try.isAgg0
  z0 := Try.sizeOf0
  v0 := Try.zeroValue0
  t3 := Try.underlying3
  a3 := Try.isAgg3
  z3 := Try.sizeOf3
  v3 := Try.zeroValue3
  t4 := Try.underlying4
  a4 := Try.isAgg4
  z4 := Try.sizeOf4
  v4 := Try.zeroValue4
  t5 := Try.underlying5
  a5 := Try.isAgg5
  z5 := Try.sizeOf5
  v5 := Try.zeroValue5
  t9 := Try.underlying9
  a9 := Try.isAgg9
  z9 := Try.sizeOf9
  v9 := Try.zeroValue9
  t28 := Try.underlying22
  a28 := Try.isAgg22
  z28 := Try.sizeOf22
  v28 := Try.zeroValue22
  t46 := Try.underlying43
  a46 := Try.isAgg43
  z46 := Try.sizeOf43
  v46 := Try.zeroValue43
  t51 := Try.underlying91
  a51 := Try.isAgg91
  z51 := Try.sizeOf91
  v51 := Try.zeroValue91
  t53 := Try.underlying71
  a53 := Try.isAgg71
  z53 := Try.sizeOf71
  v53 := Try.zeroValue71
  t131 := Try.underlying88
  a131 := Try.isAgg88
  z131 := Try.sizeOf88
  v131 := Try.zeroValue88
  t182 := Try.underlying82
  a182 := Try.isAgg82
  z182 := Try.sizeOf82
  v182 := Try.zeroValue82
  t183 := Try.underlying83
  a183 := Try.isAgg83
  z183 := Try.sizeOf83
  v183 := Try.zeroValue83
  t218 := Try.underlying95
  a218 := Try.isAgg95
  z218 := Try.sizeOf95
  v218 := Try.zeroValue95
  t222 := Try.underlying99
  a222 := Try.isAgg99
  z222 := Try.sizeOf99
  v222 := Try.zeroValue99
  t228 := Try.underlying101
  a228 := Try.isAgg101
  z228 := Try.sizeOf101
  v228 := Try.zeroValue101
  t229 := Try.underlying102
  a229 := Try.isAgg102
  z229 := Try.sizeOf102
  v229 := Try.zeroValue102 }
def Try.cmpI_ren : Go.Shelf.Ren := ⟨fun | 20 => 49 | n => n, fun | 22 => 22 | 3 => 3 | 4 => 4 | 0 => 0 | n => n, fun | n => n⟩
theorem Try.cmpI : Go.Proofs.Lays2.n20 Try.prog Try.cmpI_ren := {
  mixed := by kernel_rfl
  f20 := Try.func49.trans (congrArg some (by kernel_rfl))
  t0 := Try.underlying0
  a0 := Try.isAgg0
  z0 := Try.sizeOf0
  v0 := Try.zeroValue0
  t3 := Try.underlying3
  a3 := Try.isAgg3
  z3 := Try.sizeOf3
  v3 := Try.zeroValue3
  t4 := Try.underlying4
  a4 := Try.isAgg4
  z4 := Try.sizeOf4
  v4 := Try.zeroValue4
  t22 := Try.underlying22
  a22 := Try.isAgg22
  z22 := Try.sizeOf22
  v22 := Try.zeroValue22
  i3 := by kernel_rfl }
end Go.Proofs

set_option linter.unusedSimpArgs false
set_option linter.unusedVariables false
set_option maxRecDepth 100000
namespace Go.Proofs.Ytpipaadjokdgoaa
open Go.Lift
/-! slices.Sort and slices.Compact at ints; lists of ints that rise -/
theorem m_Sort (l l' : List Int) (hp : l'.Perm l) (hs : l'.Pairwise fun x y => x ≤ y) (hlen : l.length < 4611686018427387904) : RetM Try.prog 48 [.row 3 1 (l.map intE)] [.own 0] [true] [.row 3 1 (l'.map intE)] (.tup []) :=
  sortI_retM Try.srtI rfl (enters_of Try.func48 (by kernel_rfl) rfl) l l' hp hs hlen
theorem m_Compact (l : List Int) (hlen : l.length ≤ 9223372036854775807) : RetM Try.prog 49 [.row 3 1 (l.map intE)] [.own 0] [false] [.row 3 1 ((Go.Lib.compact l).map intE)] (.own 0) :=
  compactI_retM Try.cmpI rfl (enters_of Try.func49 (by kernel_rfl) rfl) l hlen
def srtI (l : List Int) : List Int := l.mergeSort fun x y => decide (x ≤ y)
theorem srtI_perm (l : List Int) : (srtI l).Perm l := List.mergeSort_perm _ _
theorem srtI_up (l : List Int) : (srtI l).Pairwise fun x y => x ≤ y := by
  have h1 := List.pairwise_mergeSort (le := fun x y : Int => decide (x ≤ y)) (fun a b c h1 h2 => by simp at *; omega) (fun a b => by simp; omega) l
  exact h1.imp fun h => by simpa using h
/-- the elements of a list, sorted, each once -/
def setI (l : List Int) : List Int := Go.Lib.compact (srtI l)
theorem setI_up (l : List Int) : (setI l).Pairwise fun x y => x < y := (compact_ok (srtI_up l)).1
theorem setI_mem {l : List Int} {x : Int} : x ∈ setI l ↔ x ∈ l := ((compact_ok (srtI_up l)).2 x).trans (srtI_perm l).mem_iff
theorem setI_len (l : List Int) : (setI l).length ≤ l.length := by
  have h1 := compact_len (srtI l)
  have h2 := (srtI_perm l).length_eq
  unfold setI
  omega
theorem up_ext {a b : List Int} (ha : a.Pairwise fun x y => x < y) (hb : b.Pairwise fun x y => x < y) (h : ∀ x, x ∈ a ↔ x ∈ b) : a = b := by
  have na : a.Nodup := ha.imp fun {x y} hxy he => by omega
  have nb : b.Nodup := hb.imp fun {x y} hxy he => by omega
  have hp : a.Perm b := (List.perm_ext_iff_of_nodup na nb).2 h
  exact hp.eq_of_pairwise (le := fun x y => x < y) (fun x y _ _ h1 h2 => by omega) ha hb
theorem c_Subjects (l : List Alr) (hl : l.length ≤ 1000000) : Ret Try.prog 29 [.lst 4 (l.map alE) false] (.lst 1 ((setI (l.map (·.subj))).map intE) false) := by
  have hfI : ∀ n, n ≤ 2000000 → fitsIn tt 3 n := fun n h => by
    have e : (tinfo tt 3).bytes = 8 := by kernel_rfl
    refine ⟨?_, ?_⟩
    · rw [e]; omega
    · simp only [maxLen]; omega
  have m1 := m_Sort (l.map (·.subj)) (srtI (l.map (·.subj))) (srtI_perm _) (srtI_up _) (by rw [List.length_map]; omega)
  have m2 := m_Compact (srtI (l.map (·.subj))) (by rw [(srtI_perm _).length_eq, List.length_map]; omega)
  refine ret_of_body (fn := Try.f29) (c := Try.f29.body.getD .skip) hm hT (by kernel_rfl) Try.func29 (by kernel_rfl) (by kernel_rfl) (by kernel_rfl) (by kernel_rfl) ?_
  repeat' ((conv => whnf); first | refine And.intro (fun h => h) ?_ | refine dcond_t (by assumption) ?_ | refine dcond_f (by assumption) ?_ | (refine dcond_intro ?_ ?_ <;> intro h) | exact .refl | refine And.intro (by kernel_rfl) ?_ | refine And.intro ⟨fun h => h, fun h => h⟩ ?_ | (refine And.intro ?_ ?_; focus (simp; done)) | fail)
  all_goals (conv => whnf)
  refine ⟨Nat, fun i => ⟨[(3, .own 0), (6, .lst 4 (l.map alE) false), (7, i64 l.length), (8, i64 i)], [.row 3 1 (((l.take i).map (·.subj)).map intE)]⟩, fun i => i ≤ l.length, fun i => l.length - i, [.slot 3 3 1], ⟨0, Nat.zero_le _, ?_⟩, ?_⟩
  · conv => whnf
    exact ⟨⟨.refl, .refl, dle_int (by simp), .refl, trivial⟩, ⟨.refl, trivial⟩, by rfl⟩
  · intro i hi
    repeat' ((conv => whnf); first | refine And.intro (fun h => h) ?_ | refine dcond_t (by assumption) ?_ | refine dcond_f (by assumption) ?_ | (refine dcond_intro ?_ ?_ <;> intro h) | exact .refl | refine And.intro (by kernel_rfl) ?_ | refine And.intro ⟨fun h => h, fun h => h⟩ ?_ | (refine And.intro ?_ ?_; focus (simp; done)) | fail)
    · have hlt : i < l.length := by simpa using h
      clear h
      repeat' ((conv => whnf); first | refine And.intro (fun h => h) ?_ | refine dcond_t (by assumption) ?_ | refine dcond_f (by assumption) ?_ | (refine dcond_intro ?_ ?_ <;> intro h) | exact .refl | refine And.intro (by kernel_rfl) ?_ | refine And.intro ⟨fun h => h, fun h => h⟩ ?_ | refine ⟨_, _, And.intro ⟨rfl, get_map hlt⟩ ?_⟩ | refine And.intro (hfI _ (by simp <;> omega)) ?_ | (refine And.intro ?_ ?_; focus (simp; done)) | fail)
      all_goals (conv => whnf)
      refine ⟨i + 1, hlt, by simp only []; omega, ?_⟩
      conv => whnf
      refine ⟨⟨.refl, .refl, .refl, dle_int (wrap_succ (by omega)), trivial⟩, ⟨ole_row ?_, trivial⟩, by rfl⟩
      rw [List.take_succ_eq_append_getElem hlt, List.map_append, List.map_append]
      rfl
    · have : i = l.length := by
        simp at h
        omega
      subst this
      rw [List.take_length]
      repeat' ((conv => whnf); first | refine And.intro (fun h => h) ?_ | refine dcond_t (by assumption) ?_ | refine dcond_f (by assumption) ?_ | (refine dcond_intro ?_ ?_ <;> intro h) | exact .refl | refine And.intro (by kernel_rfl) ?_ | refine And.intro ⟨fun h => h, fun h => h⟩ ?_ | refine .inr ⟨[0], _, _, _, _, _, m1, by rfl, ⟨.refl, trivial⟩, ⟨.refl, trivial⟩, ?_⟩ | refine .inr ⟨[0], _, _, _, _, _, m2, by rfl, ⟨.refl, trivial⟩, ⟨.refl, trivial⟩, ?_⟩ | (refine And.intro ?_ ?_; focus (simp; done)) | fail)
end Go.Proofs.Ytpipaadjokdgoaa

set_option linter.unusedSimpArgs false
set_option linter.unusedVariables false
set_option maxRecDepth 100000
namespace Go.Proofs.Ytpipaadjokdgoaa
open Go.Lift
/-! package cut -/
def cntI (S : List Alr) (x : Int) : Nat := cntS S x S.length
theorem cntI_le (S : List Alr) (x : Int) : cntI S x ≤ S.length := cnt_le S x S.length
theorem cntI_eq (S : List Alr) (x : Int) : cntI S x = S.countP fun a => decide (a.subj = x) := by rw [cntI, cntS, List.take_length]
def hasB (S : List Alr) (x r : Int) : Bool := S.any fun a => decide (a.subj = x) && decide (a.ring = r)
def impB (S : List Alr) (R : List Int) (x : Int) (r : Nat) : Bool := !hasB S x (r : Nat) && decide (2 ≤ cntI S (R.getD r 0))
def impAt (S : List Alr) (R : List Int) (x : Int) (i : Nat) : Nat := (List.range i).countP (impB S R x)
theorem imp_succ (S : List Alr) (R : List Int) (x : Int) (i : Nat) : impAt S R x (i + 1) = impAt S R x i + if impB S R x i = true then 1 else 0 := by
  unfold impAt
  rw [List.range_succ, List.countP_append, List.countP_cons, List.countP_nil]
  simp
theorem imp_le (S : List Alr) (R : List Int) (x : Int) (i : Nat) : impAt S R x i ≤ i := Nat.le_trans List.countP_le_length (by simp)
theorem c_implicit (v : View) (hv : v.mem.length ≤ maxLen) (S : List Alr) (hl : S.length ≤ 1000000) (x : Int) : Ret Try.prog 31 [.agg (viewE v), .lst 4 (S.map alE) false, i64 x] (i64 (impAt S (obsR v.mem x) x (obsR v.mem x).length : Nat)) := by
  have e1 := c_overlay_Observers v.mem hv x
  have h5 := obs_len v.mem x
  have hS := imp_succ S
  have hle := imp_le S
  generalize obsR v.mem x = R at *
  refine ret_of_body (fn := Try.f31) (c := Try.f31.body.getD .skip) hm hT (by kernel_rfl) Try.func31 (by kernel_rfl) (by kernel_rfl) (by kernel_rfl) (by kernel_rfl) ?_
  repeat' ((conv => whnf); first | refine And.intro (fun h => h) ?_ | refine dcond_t (by assumption) ?_ | refine dcond_f (by assumption) ?_ | (refine dcond_intro ?_ ?_ <;> intro h) | exact .refl | refine And.intro (by kernel_rfl) ?_ | refine And.intro ⟨fun h => h, fun h => h⟩ ?_ | refine .inl ⟨_, _, DleAll_refl _, e1, ?_⟩ | refine ⟨_, _, DleAll_refl _, fun _ => e1, ?_⟩ | refine ⟨_, _, DleAll_refl _, e1, ?_⟩ | (refine And.intro ?_ ?_; focus (simp; done)) | fail)
  all_goals (conv => whnf)
  refine ⟨Nat, fun i => ⟨[(1, .lst 4 (S.map alE) false), (2, i64 x), (7, i64 (impAt S R x i : Nat)), (15, .lst 1 (R.map intE) false), (16, i64 R.length), (17, i64 i)], [.cells 24 (viewE v)]⟩, fun i => i ≤ R.length, fun i => R.length - i, [], ⟨0, Nat.zero_le _, ?_⟩, ?_⟩
  · conv => whnf
    exact ⟨⟨.refl, .refl, .refl, .refl, dle_int (by simp), .refl, trivial⟩, ⟨.refl, trivial⟩, by rfl⟩
  · intro i hi
    repeat' ((conv => whnf); first | refine And.intro (fun h => h) ?_ | refine dcond_t (by assumption) ?_ | refine dcond_f (by assumption) ?_ | (refine dcond_intro ?_ ?_ <;> intro h) | exact .refl | refine And.intro (by kernel_rfl) ?_ | refine And.intro ⟨fun h => h, fun h => h⟩ ?_ | (refine And.intro ?_ ?_; focus (simp; done)) | fail)
    · have hlt : i < R.length := by simpa using h
      clear h
      have hs := hS R x i
      have hli := hle R x i
      have hg : R.getD i 0 = R[i] := by simp [hlt]
      repeat' ((conv => whnf); first | refine And.intro (fun h => h) ?_ | refine dcond_t (by assumption) ?_ | refine dcond_f (by assumption) ?_ | (refine dcond_intro ?_ ?_ <;> intro h) | exact .refl | refine And.intro (by kernel_rfl) ?_ | refine And.intro ⟨fun h => h, fun h => h⟩ ?_ | refine ⟨_, _, And.intro ⟨rfl, get_map hlt⟩ ?_⟩ | (refine And.intro ?_ ?_; focus (simp; done)) | fail)
      all_goals (conv => whnf)
      refine ⟨Nat, fun j => ⟨[(1, .lst 4 (S.map alE) false), (2, i64 x), (7, i64 (impAt S R x i : Nat)), (8, i64 i), (9, i64 R[i]), (15, .lst 1 (R.map intE) false), (16, i64 R.length), (17, i64 i), (22, .lst 4 (S.map alE) false), (23, i64 S.length), (24, i64 j)], [.cells 24 (viewE v)]⟩, fun j => j ≤ S.length ∧ ((S.take j).any fun a => decide (a.subj = x) && decide (a.ring = (i : Nat))) = false, fun j => S.length - j, [], ⟨0, ⟨Nat.zero_le _, by simp⟩, ?_⟩, ?_⟩
      · conv => whnf
        exact ⟨⟨.refl, .refl, .refl, .refl, .refl, .refl, dle_int (by simp), .refl, .refl, dle_int (by simp), .refl, trivial⟩, ⟨.refl, trivial⟩, by rfl⟩
      · intro j ⟨hj, hno⟩
        repeat' ((conv => whnf); first | refine And.intro (fun h => h) ?_ | refine dcond_t (by assumption) ?_ | refine dcond_f (by assumption) ?_ | (refine dcond_intro ?_ ?_ <;> intro h) | exact .refl | refine And.intro (by kernel_rfl) ?_ | refine And.intro ⟨fun h => h, fun h => h⟩ ?_ | (refine And.intro ?_ ?_; focus (simp; done)) | fail)
        · have hjl : j < S.length := by simpa using h
          clear h
          repeat' ((conv => whnf); first | refine And.intro (fun h => h) ?_ | refine dcond_t (by assumption) ?_ | refine dcond_f (by assumption) ?_ | (refine dcond_intro ?_ ?_ <;> intro h) | exact .refl | refine And.intro (by kernel_rfl) ?_ | refine And.intro ⟨fun h => h, fun h => h⟩ ?_ | refine ⟨_, _, And.intro ⟨rfl, get_map hjl⟩ ?_⟩ | (refine And.intro ?_ ?_; focus (simp; done)) | fail)
          all_goals (conv => whnf)
          · have hhas : hasB S x (i : Nat) = true := by
              unfold hasB
              rw [List.any_eq_true]
              exact ⟨S[j], List.getElem_mem hjl, h⟩
            have hb : impB S R x i = false := by
              unfold impB
              rw [hhas]
              rfl
            rw [hb, if_neg (by simp), Nat.add_zero] at hs
            refine ⟨i + 1, hlt, by simp only []; omega, ?_⟩
            conv => whnf
            exact ⟨⟨.refl, .refl, dle_int (by rw [hs]; rfl), .refl, .refl, dle_int (wrap_succ (by omega)), trivial⟩, ⟨.refl, trivial⟩, by rfl⟩
          · refine ⟨j + 1, ⟨hjl, ?_⟩, by simp only []; omega, ?_⟩
            · rw [List.take_succ_eq_append_getElem hjl, List.any_append, hno, Bool.false_or]
              simp only [List.any_cons, List.any_nil, Bool.or_false]
              exact h
            · conv => whnf
              exact ⟨⟨.refl, .refl, .refl, .refl, .refl, .refl, .refl, .refl, .refl, .refl, dle_int (wrap_succ (by omega)), trivial⟩, ⟨.refl, trivial⟩, by rfl⟩
        · have : j = S.length := by
            simp at h
            omega
          subst this
          clear h
          rw [List.take_length] at hno
          have hhas : hasB S x (i : Nat) = false := hno
          have hb : impB S R x i = decide (2 ≤ cntI S R[i]) := by
            unfold impB
            rw [hhas, hg]
            rfl
          have ec := c_alerts_Count S hl R[i]
          change Ret _ _ _ (i64 (cntI S R[i] : Nat)) at ec
          repeat' ((conv => whnf); first | refine And.intro (fun h => h) ?_ | refine dcond_t (by assumption) ?_ | refine dcond_f (by assumption) ?_ | (refine dcond_intro ?_ ?_ <;> intro h) | exact .refl | refine And.intro (by kernel_rfl) ?_ | refine And.intro ⟨fun h => h, fun h => h⟩ ?_ | refine .inl ⟨_, _, DleAll_refl _, ec, ?_⟩ | refine ⟨_, _, DleAll_refl _, fun _ => ec, ?_⟩ | refine ⟨_, _, DleAll_refl _, ec, ?_⟩ | (refine And.intro ?_ ?_; focus (simp; done)) | fail)
          all_goals (conv => whnf)
          · rw [hb, if_pos (decide_eq_true (by have := of_decide_eq_true h; omega))] at hs
            refine ⟨i + 1, hlt, by simp only []; omega, ?_⟩
            conv => whnf
            refine ⟨⟨.refl, .refl, dle_int ?_, .refl, .refl, dle_int (wrap_succ (by omega)), trivial⟩, ⟨.refl, trivial⟩, by rfl⟩
            rw [hs, wrap_i64 (by omega) (by omega)]
            omega
          · rw [hb, if_neg (by
              have := of_decide_eq_false h
              rw [decide_eq_true_eq]
              omega), Nat.add_zero] at hs
            refine ⟨i + 1, hlt, by simp only []; omega, ?_⟩
            conv => whnf
            exact ⟨⟨.refl, .refl, dle_int (by rw [hs]; rfl), .refl, .refl, dle_int (wrap_succ (by omega)), trivial⟩, ⟨.refl, trivial⟩, by rfl⟩
    · have : i = R.length := by
        simp at h
        omega
      subst this
      repeat' ((conv => whnf); first | refine And.intro (fun h => h) ?_ | refine dcond_t (by assumption) ?_ | refine dcond_f (by assumption) ?_ | (refine dcond_intro ?_ ?_ <;> intro h) | exact .refl | refine And.intro (by kernel_rfl) ?_ | refine And.intro ⟨fun h => h, fun h => h⟩ ?_ | (refine And.intro ?_ ?_; focus (simp; done)) | fail)
structure Tal where
  subj : Int
  exp : Nat
  imp : Nat
def talE (t : Tal) : List DV := [i64 t.subj, i64 t.exp, i64 t.imp]
def talOf (v : View) (S : List Alr) (x : Int) : Tal := ⟨x, cntI S x, if 2 ≤ cntI S x then impAt S (obsR v.mem x) x (obsR v.mem x).length else 0⟩
def countsR (v : View) (S : List Alr) : List Tal := bif !valS v S then [] else (setI (S.map (·.subj))).map (talOf v S)
theorem fitsT {n : Nat} (h : n ≤ 2000000) : fitsIn tt 31 n := by
  have e : (tinfo tt 31).bytes = 24 := by kernel_rfl
  refine ⟨?_, ?_⟩
  · rw [e]; omega
  · simp only [maxLen]; omega
theorem talOf_lo {v : View} {S : List Alr} {x : Int} (h : ¬ 2 ≤ cntI S x) : talOf v S x = ⟨x, cntI S x, 0⟩ := by
  unfold talOf
  rw [if_neg h]
theorem talOf_hi {v : View} {S : List Alr} {x : Int} (h : 2 ≤ cntI S x) : talOf v S x = ⟨x, cntI S x, impAt S (obsR v.mem x) x (obsR v.mem x).length⟩ := by
  unfold talOf
  rw [if_pos h]
theorem c_cut_Counts (v : View) (hv : v.mem.length ≤ maxLen) (S : List Alr) (hl : S.length ≤ 1000000) : Ret Try.prog 11 [.agg (viewE v), .lst 4 (S.map alE) false] (.lst 3 ((countsR v S).map talE) false) := by
  have e1 := c_alerts_Valid v hv S (by simp only [maxLen]; omega)
  have e2 := c_Subjects S hl
  have hXl := setI_len (S.map (·.subj))
  rw [List.length_map] at hXl
  have hd : countsR v S = bif !valS v S then [] else (setI (S.map (·.subj))).map (talOf v S) := rfl
  have hlo := fun x h => talOf_lo (v := v) (S := S) (x := x) h
  have hhi := fun x h => talOf_hi (v := v) (S := S) (x := x) h
  have ei := c_implicit v hv S hl
  generalize talOf v S = tO at *
  generalize setI (S.map (·.subj)) = X at *
  generalize countsR v S = res at *
  generalize valS v S = vS at *
  refine ret_of_body (fn := Try.f11) (c := Try.f11.body.getD .skip) hm hT (by kernel_rfl) Try.func11 (by kernel_rfl) (by kernel_rfl) (by kernel_rfl) (by kernel_rfl) ?_
  repeat' ((conv => whnf); first | refine And.intro (fun h => h) ?_ | refine dcond_t (by assumption) ?_ | refine dcond_f (by assumption) ?_ | (refine dcond_intro ?_ ?_ <;> intro h) | exact .refl | refine And.intro (by kernel_rfl) ?_ | refine And.intro ⟨fun h => h, fun h => h⟩ ?_ | refine .inl ⟨_, _, DleAll_refl _, e1, ?_⟩ | refine ⟨_, _, DleAll_refl _, fun _ => e1, ?_⟩ | refine ⟨_, _, DleAll_refl _, e1, ?_⟩ | refine .inl ⟨_, _, DleAll_refl _, e2, ?_⟩ | refine ⟨_, _, DleAll_refl _, fun _ => e2, ?_⟩ | refine ⟨_, _, DleAll_refl _, e2, ?_⟩ | (refine And.intro ?_ ?_; focus (simp; done)) | fail)
  all_goals (conv => whnf)
  · rw [hd, h]
    exact .nl
  · rw [h, cond_false] at hd
    clear h
    subst hd
    refine ⟨Nat, fun i => ⟨[(1, .lst 4 (S.map alE) false), (2, .lp 0 0), (5, .own 1), (14, .lst 1 (X.map intE) false), (15, i64 X.length), (16, i64 i)], [.cells 24 (viewE v), .row 31 3 (((X.take i).map tO).map talE)]⟩, fun i => i ≤ X.length, fun i => X.length - i, [.slot 5 31 3], ⟨0, Nat.zero_le _, ?_⟩, ?_⟩
    · conv => whnf
      exact ⟨⟨.refl, .refl, .refl, .refl, dle_int (by simp), .refl, trivial⟩, ⟨.refl, .refl, trivial⟩, by rfl⟩
    · intro i hi
      repeat' ((conv => whnf); first | refine And.intro (fun h => h) ?_ | refine dcond_t (by assumption) ?_ | refine dcond_f (by assumption) ?_ | (refine dcond_intro ?_ ?_ <;> intro h) | exact .refl | refine And.intro (by kernel_rfl) ?_ | refine And.intro ⟨fun h => h, fun h => h⟩ ?_ | (refine And.intro ?_ ?_; focus (simp; done)) | fail)
      · have hlt : i < X.length := by simpa using h
        clear h
        have ec := c_alerts_Count S hl X[i]
        have ei := ei X[i]
        have hlo := hlo X[i]
        have hhi := hhi X[i]
        change Ret _ _ _ (i64 (cntI S X[i] : Nat)) at ec
        generalize impAt S (obsR v.mem X[i]) X[i] (obsR v.mem X[i]).length = im at *
        generalize cntI S X[i] = cn at *
        repeat' ((conv => whnf); first | refine And.intro (fun h => h) ?_ | refine dcond_t (by assumption) ?_ | refine dcond_f (by assumption) ?_ | (refine dcond_intro ?_ ?_ <;> intro h) | exact .refl | refine And.intro (by kernel_rfl) ?_ | refine And.intro ⟨fun h => h, fun h => h⟩ ?_ | refine ⟨_, _, And.intro ⟨rfl, get_map hlt⟩ ?_⟩ | refine .inl ⟨_, _, DleAll_refl _, ec, ?_⟩ | refine ⟨_, _, DleAll_refl _, fun _ => ec, ?_⟩ | refine ⟨_, _, DleAll_refl _, ec, ?_⟩ | refine .inl ⟨_, _, DleAll_refl _, ei, ?_⟩ | refine ⟨_, _, DleAll_refl _, fun _ => ei, ?_⟩ | refine ⟨_, _, DleAll_refl _, ei, ?_⟩ | refine And.intro (fitsT (by simp <;> omega)) ?_ | (refine And.intro ?_ ?_; focus (simp; done)) | fail)
        all_goals (conv => whnf)
        all_goals refine ⟨i + 1, hlt, by simp only []; omega, ?_⟩
        all_goals (conv => whnf)
        all_goals refine ⟨⟨.refl, .refl, .refl, .refl, .refl, dle_int (wrap_succ (by omega)), trivial⟩, ⟨.refl, ole_row ?_, trivial⟩, by rfl⟩
        all_goals rw [List.take_succ_eq_append_getElem hlt, List.map_append, List.map_append, List.map_singleton, List.map_singleton]
        · rw [hhi (by have := of_decide_eq_true h; omega)]
          rfl
        · rw [hlo (by have := of_decide_eq_false h; omega)]
          rfl
      · have : i = X.length := by
          simp at h
          omega
        subst this
        rw [List.take_length]
        repeat' ((conv => whnf); first | refine And.intro (fun h => h) ?_ | refine dcond_t (by assumption) ?_ | refine dcond_f (by assumption) ?_ | (refine dcond_intro ?_ ?_ <;> intro h) | exact .refl | refine And.intro (by kernel_rfl) ?_ | refine And.intro ⟨fun h => h, fun h => h⟩ ?_ | (refine And.intro ?_ ?_; focus (simp; done)) | fail)
def susB (b : Bool) (t : Tal) : Bool := decide (2 ≤ t.exp) && (decide (4 ≤ t.exp + t.imp) == b)
def susR (v : View) (S : List Alr) (b : Bool) : List Int := ((countsR v S).filter (susB b)).map (·.subj)
theorem cnt_bnd (v : View) (S : List Alr) : (countsR v S).length ≤ S.length ∧ ∀ t ∈ countsR v S, t.exp ≤ S.length ∧ t.imp ≤ 5 := by
  unfold countsR
  cases !valS v S
  · rw [cond_false]
    have hXl := setI_len (S.map (·.subj))
    rw [List.length_map] at hXl
    refine ⟨by rw [List.length_map]; exact hXl, fun t ht => ?_⟩
    obtain ⟨x, _, rfl⟩ := List.mem_map.1 ht
    unfold talOf
    refine ⟨cntI_le S x, ?_⟩
    split
    · exact Nat.le_trans (imp_le ..) (obs_len v.mem x)
    · exact Nat.zero_le _
  · rw [cond_true]
    simp
theorem c_suspects (v : View) (hv : v.mem.length ≤ maxLen) (S : List Alr) (hl : S.length ≤ 1000000) (b : Bool) : Ret Try.prog 39 [.agg (viewE v), .lst 4 (S.map alE) false, .v (.bool b)] (.lst 1 ((susR v S b).map intE) false) := by
  have e1 := c_cut_Counts v hv S hl
  obtain ⟨hb1, hb2⟩ := cnt_bnd v S
  unfold susR
  generalize countsR v S = T at *
  have hfI : ∀ n, n ≤ 2000000 → fitsIn tt 3 n := fun n h => by
    have e : (tinfo tt 3).bytes = 8 := by kernel_rfl
    refine ⟨?_, ?_⟩
    · rw [e]; omega
    · simp only [maxLen]; omega
  refine ret_of_body (fn := Try.f39) (c := Try.f39.body.getD .skip) hm hT (by kernel_rfl) Try.func39 (by kernel_rfl) (by kernel_rfl) (by kernel_rfl) (by kernel_rfl) ?_
  repeat' ((conv => whnf); first | refine And.intro (fun h => h) ?_ | refine dcond_t (by assumption) ?_ | refine dcond_f (by assumption) ?_ | (refine dcond_intro ?_ ?_ <;> intro h) | exact .refl | refine And.intro (by kernel_rfl) ?_ | refine And.intro ⟨fun h => h, fun h => h⟩ ?_ | refine .inl ⟨_, _, DleAll_refl _, e1, ?_⟩ | refine ⟨_, _, DleAll_refl _, fun _ => e1, ?_⟩ | refine ⟨_, _, DleAll_refl _, e1, ?_⟩ | (refine And.intro ?_ ?_; focus (simp; done)) | fail)
  all_goals (conv => whnf)
  refine ⟨Nat, fun i => ⟨[(2, .v (.bool b)), (7, .own 1), (12, .lst 3 (T.map talE) false), (13, i64 T.length), (14, i64 i)], [.cells 24 (viewE v), .row 3 1 ((((T.take i).filter (susB b)).map (·.subj)).map intE)]⟩, fun i => i ≤ T.length, fun i => T.length - i, [.slot 7 3 1], ⟨0, Nat.zero_le _, ?_⟩, ?_⟩
  · conv => whnf
    exact ⟨⟨.refl, .refl, .refl, dle_int (by simp), .refl, trivial⟩, ⟨.refl, .refl, trivial⟩, by rfl⟩
  · intro i hi
    repeat' ((conv => whnf); first | refine And.intro (fun h => h) ?_ | refine dcond_t (by assumption) ?_ | refine dcond_f (by assumption) ?_ | (refine dcond_intro ?_ ?_ <;> intro h) | exact .refl | refine And.intro (by kernel_rfl) ?_ | refine And.intro ⟨fun h => h, fun h => h⟩ ?_ | (refine And.intro ?_ ?_; focus (simp; done)) | fail)
    · have hlt : i < T.length := by simpa using h
      clear h
      obtain ⟨hx1, hx2⟩ := hb2 T[i] (List.getElem_mem hlt)
      have hflt : ((T.take i).filter (susB b)).length ≤ i := Nat.le_trans (List.length_filter_le ..) (by simp; omega)
      have hs : ((T.take (i + 1)).filter (susB b)).map (·.subj) = ((T.take i).filter (susB b)).map (·.subj) ++ bif susB b T[i] then [T[i].subj] else [] := by
        rw [List.take_succ_eq_append_getElem hlt, List.filter_append, List.map_append]
        cases hb : susB b T[i] <;> simp [hb]
      have hbe : susB b T[i] = (decide (T[i].exp ≥ (2 : Int)) && decide ((decide (IntKind.i64.wrap ((T[i].exp : Int) + (T[i].imp : Int)) ≥ 4)) = b)) := by
        rw [wrap_i64 (by omega) (by omega)]
        unfold susB
        have h1 : decide (2 ≤ T[i].exp) = decide (((T[i].exp : Nat) : Int) ≥ (2 : Int)) := by
          by_cases h : 2 ≤ T[i].exp
          · rw [decide_eq_true h, decide_eq_true (by omega)]
          · rw [decide_eq_false h, decide_eq_false (by omega)]
        have h2 : decide (4 ≤ T[i].exp + T[i].imp) = decide (((T[i].exp : Nat) : Int) + ((T[i].imp : Nat) : Int) ≥ 4) := by
          by_cases h : 4 ≤ T[i].exp + T[i].imp
          · rw [decide_eq_true h, decide_eq_true (by omega)]
          · rw [decide_eq_false h, decide_eq_false (by omega)]
        rw [h1, h2]
        congr 1
      have hlN : (((T.take i).filter (susB b)).map (·.subj)).length ≤ i := by rw [List.length_map]; exact hflt
      generalize ((T.take i).filter (susB b)).map (·.subj) = N0 at *
      generalize susB b T[i] = sb at *
      repeat' ((conv => whnf); first | refine And.intro (fun h => h) ?_ | refine dcond_t (by assumption) ?_ | refine dcond_f (by assumption) ?_ | (refine dcond_intro ?_ ?_ <;> intro h) | exact .refl | refine And.intro (by kernel_rfl) ?_ | refine And.intro ⟨fun h => h, fun h => h⟩ ?_ | refine ⟨_, _, And.intro ⟨rfl, get_map hlt⟩ ?_⟩ | refine And.intro (hfI _ (by simp <;> omega)) ?_ | (refine And.intro ?_ ?_; focus (simp; done)) | fail)
      all_goals (conv => whnf)
      all_goals refine ⟨i + 1, hlt, by simp only []; omega, ?_⟩
      all_goals (conv => whnf)
      all_goals refine ⟨⟨.refl, .refl, .refl, .refl, dle_int (wrap_succ (by omega)), trivial⟩, ⟨.refl, ole_row ?_, trivial⟩, by rfl⟩
      · rw [hs, hbe.trans h, cond_true, List.map_append]
        rfl
      · rw [hs, hbe.trans h, cond_false, List.append_nil]
    · have : i = T.length := by
        simp at h
        omega
      subst this
      rw [List.take_length]
      repeat' ((conv => whnf); first | refine And.intro (fun h => h) ?_ | refine dcond_t (by assumption) ?_ | refine dcond_f (by assumption) ?_ | (refine dcond_intro ?_ ?_ <;> intro h) | exact .refl | refine And.intro (by kernel_rfl) ?_ | refine And.intro ⟨fun h => h, fun h => h⟩ ?_ | (refine And.intro ?_ ?_; focus (simp; done)) | fail)
theorem c_Unstable (v : View) (hv : v.mem.length ≤ maxLen) (S : List Alr) (hl : S.length ≤ 1000000) : Ret Try.prog 16 [.agg (viewE v), .lst 4 (S.map alE) false] (.lst 1 ((susR v S false).map intE) false) := by
  have e1 := c_suspects v hv S hl false
  refine ret_of_body (fn := Try.f16) (c := Try.f16.body.getD .skip) hm hT (by kernel_rfl) Try.func16 (by kernel_rfl) (by kernel_rfl) (by kernel_rfl) (by kernel_rfl) ?_
  repeat' ((conv => whnf); first | refine And.intro (fun h => h) ?_ | refine dcond_t (by assumption) ?_ | refine dcond_f (by assumption) ?_ | (refine dcond_intro ?_ ?_ <;> intro h) | exact .refl | refine And.intro (by kernel_rfl) ?_ | refine And.intro ⟨fun h => h, fun h => h⟩ ?_ | refine .inl ⟨_, _, DleAll_refl _, e1, ?_⟩ | refine ⟨_, _, DleAll_refl _, fun _ => e1, ?_⟩ | refine ⟨_, _, DleAll_refl _, e1, ?_⟩ | (refine And.intro ?_ ?_; focus (simp; done)) | fail)
theorem c_Stable (v : View) (hv : v.mem.length ≤ maxLen) (S : List Alr) (hl : S.length ≤ 1000000) : Ret Try.prog 18 [.agg (viewE v), .lst 4 (S.map alE) false] (.lst 1 ((susR v S true).map intE) false) := by
  have e1 := c_suspects v hv S hl true
  refine ret_of_body (fn := Try.f18) (c := Try.f18.body.getD .skip) hm hT (by kernel_rfl) Try.func18 (by kernel_rfl) (by kernel_rfl) (by kernel_rfl) (by kernel_rfl) ?_
  repeat' ((conv => whnf); first | refine And.intro (fun h => h) ?_ | refine dcond_t (by assumption) ?_ | refine dcond_f (by assumption) ?_ | (refine dcond_intro ?_ ?_ <;> intro h) | exact .refl | refine And.intro (by kernel_rfl) ?_ | refine And.intro ⟨fun h => h, fun h => h⟩ ?_ | refine .inl ⟨_, _, DleAll_refl _, e1, ?_⟩ | refine ⟨_, _, DleAll_refl _, fun _ => e1, ?_⟩ | refine ⟨_, _, DleAll_refl _, e1, ?_⟩ | (refine And.intro ?_ ?_; focus (simp; done)) | fail)
end Go.Proofs.Ytpipaadjokdgoaa

set_option linter.unusedSimpArgs false
set_option linter.unusedVariables false
set_option maxRecDepth 100000
namespace Go.Proofs.Ytpipaadjokdgoaa
open Go.Lift
/-! cut.Propose; the helpers of the reference and of the law -/
def propF (v : View) : Nat → List Int → List Int × Bool
  | 0, _ => ([], false)
  | n + 1, l => bif decide ((nextR v l).2 = 0) then (l, true) else bif !decide ((nextR v l).2 = 5) || decide (((comeL v l).length : Int) = 0) then ([], false)
    else propF v n (l.take (placeB l ((comeL v l).getD ((comeL v l).length - 1) 0)).toNat ++ l.drop ((placeB l ((comeL v l).getD ((comeL v l).length - 1) 0)).toNat + 1))
def propL (v : View) (l : List Int) : List Int × Bool := propF v (l.length + 1) l
theorem prop_eq (v : View) (l : List Int) : propF v (l.length + 1) l = bif decide ((nextR v l).2 = 0) then (l, true) else bif !decide ((nextR v l).2 = 5) || decide (((comeL v l).length : Int) = 0) then ([], false)
    else propF v l.length (l.take (placeB l ((comeL v l).getD ((comeL v l).length - 1) 0)).toNat ++ l.drop ((placeB l ((comeL v l).getD ((comeL v l).length - 1) 0)).toNat + 1)) := by rw [propF]
theorem come_sub {v : View} {l : List Int} {x : Int} (h : x ∈ comeL v l) : x ∈ l := by
  unfold comeL splitR at h
  cases hc : (!viewB v || !idsB l 32)
  · rw [hc] at h
    exact (List.mem_filter.1 h).1
  · rw [hc] at h
    simp at h
theorem come_last {v : View} {l : List Int} (h : (comeL v l).length ≠ 0) : ∃ (k : Nat) (hk : k < l.length), placeB l ((comeL v l).getD ((comeL v l).length - 1) 0) = k ∧ l[k] = (comeL v l).getD ((comeL v l).length - 1) 0 := by
  refine place_val (come_sub (v := v) ?_)
  have h1 : (comeL v l).length - 1 < (comeL v l).length := by omega
  rw [List.getD_eq_getElem?_getD, List.getElem?_eq_getElem h1, Option.getD_some]
  exact List.getElem_mem h1
def proposeR (v : View) (S : List Alr) : List Int × Bool := bif decide (0 < ((susR v S false).length : Int)) then ([], false) else propL v (susR v S true)
theorem sus_len (v : View) (S : List Alr) (b : Bool) : (susR v S b).length ≤ S.length := by
  unfold susR
  rw [List.length_map]
  exact Nat.le_trans (List.length_filter_le ..) (cnt_bnd v S).1
theorem c_Propose (v : View) (hv : v.mem.length ≤ 500000) (S : List Alr) (hl : S.length ≤ 500000) : Ret Try.prog 13 [.agg (viewE v), .lst 4 (S.map alE) false] (.tup [.lst 1 ((proposeR v S).1.map intE) false, .v (.bool (proposeR v S).2)]) := by
  have hv' : v.mem.length ≤ maxLen := by simp only [maxLen]; omega
  have e1 := c_Unstable v hv' S (by omega)
  have e2 := c_Stable v hv' S (by omega)
  have hll := sus_len v S true
  have hd : proposeR v S = bif decide (0 < ((susR v S false).length : Int)) then ([], false) else propF v ((susR v S true).length + 1) (susR v S true) := rfl
  generalize proposeR v S = res at *
  generalize susR v S false = U at *
  generalize susR v S true = L at *
  refine ret_of_body (fn := Try.f13) (c := Try.f13.body.getD .skip) hm hT (by kernel_rfl) Try.func13 (by kernel_rfl) (by kernel_rfl) (by kernel_rfl) (by kernel_rfl) ?_
  repeat' ((conv => whnf); first | refine And.intro (fun h => h) ?_ | refine dcond_t (by assumption) ?_ | refine dcond_f (by assumption) ?_ | (refine dcond_intro ?_ ?_ <;> intro h) | exact .refl | refine And.intro (by kernel_rfl) ?_ | refine And.intro ⟨fun h => h, fun h => h⟩ ?_ | refine .inl ⟨_, _, DleAll_refl _, e1, ?_⟩ | refine ⟨_, _, DleAll_refl _, fun _ => e1, ?_⟩ | refine ⟨_, _, DleAll_refl _, e1, ?_⟩ | refine .inl ⟨_, _, DleAll_refl _, e2, ?_⟩ | refine ⟨_, _, DleAll_refl _, fun _ => e2, ?_⟩ | refine ⟨_, _, DleAll_refl _, e2, ?_⟩ | (refine And.intro ?_ ?_; focus (simp; done)) | fail)
  all_goals (conv => whnf)
  · rw [List.length_map] at h
    rw [hd, h]
    exact dle_tupA ⟨.nl, .refl, trivial⟩
  · rw [List.length_map] at h
    rw [h, cond_false] at hd
    clear h
    subst hd
    refine ⟨List Int, fun l => ⟨[(2, .lp 0 0), (6, .lst 1 (l.map intE) false)], [.cells 24 (viewE v)]⟩, fun l => l.length ≤ L.length ∧ propF v (l.length + 1) l = propF v (L.length + 1) L, fun l => l.length, [], ⟨L, ⟨Nat.le_refl _, rfl⟩, ?_⟩, ?_⟩
    · conv => whnf
      exact ⟨⟨.refl, .refl, trivial⟩, ⟨.refl, trivial⟩, by rfl⟩
    · intro l ⟨hlen, hinv⟩
      have en := c_view_Next v hv l (by omega)
      have ej : Ret Try.prog 36 [.agg (viewE v), .lst 1 (l.map intE) false] (.lst 1 ((comeL v l).map intE) false) := c_view_Joiners v (by omega) l (by omega)
      rw [prop_eq] at hinv
      have hlast := come_last (v := v) (l := l)
      have hjl : (comeL v l).length ≤ l.length := split_len v l l v.mem
      generalize comeL v l = J at *
      generalize nextR v l = N at *
      obtain ⟨N1, N2⟩ := N
      simp only [] at en hinv
      generalize propF v (L.length + 1) L = res at *
      repeat' ((conv => whnf); first | refine And.intro (fun h => h) ?_ | refine dcond_t (by assumption) ?_ | refine dcond_f (by assumption) ?_ | (refine dcond_intro ?_ ?_ <;> intro h) | exact .refl | refine And.intro (by kernel_rfl) ?_ | refine And.intro ⟨fun h => h, fun h => h⟩ ?_ | refine .inl ⟨_, _, DleAll_refl _, en, ?_⟩ | refine ⟨_, _, DleAll_refl _, fun _ => en, ?_⟩ | refine ⟨_, _, DleAll_refl _, en, ?_⟩ | refine .inl ⟨_, _, DleAll_refl _, ej, ?_⟩ | refine ⟨_, _, DleAll_refl _, fun _ => ej, ?_⟩ | refine ⟨_, _, DleAll_refl _, ej, ?_⟩ | (refine And.intro ?_ ?_; focus (simp; done)) | fail)
      all_goals (conv => whnf)
      · rw [h, cond_true] at hinv
        rw [← hinv]
        exact .refl
      · rename_i h1
        rw [List.length_map] at h
        rw [h1, h, cond_true, cond_false] at hinv
        rw [← hinv]
        exact dle_tupA ⟨.nl, .refl, trivial⟩
      · rename_i h1
        rw [List.length_map] at h
        rw [h1, h, cond_false, cond_false] at hinv
        have hJ0 : J.length ≠ 0 := by
          rw [Bool.or_eq_false_iff] at h
          have := of_decide_eq_false h.2
          omega
        obtain ⟨k, hk, hpl, _⟩ := hlast hJ0
        clear h h1 hlast
        have hix : IntKind.i64.wrap (((J.map intE).length : Int) - 1) = ((J.length - 1 : Nat) : Int) := by
          rw [List.length_map, wrap_i64 (by omega) (by omega)]
          omega
        have hgj : (J.map intE)[J.length - 1]? = some (intE (J.getD (J.length - 1) 0)) := by
          have : J.length - 1 < J.length := by omega
          simp [this]
        generalize J.getD (J.length - 1) 0 = y at *
        have ep := c_view_Place l (by simp only [maxLen]; omega) y
        rw [hpl] at ep hinv
        rw [Int.toNat_natCast] at hinv
        have hk1 : IntKind.i64.wrap ((k : Int) + 1) = ((k + 1 : Nat) : Int) := by
          rw [wrap_i64 (by omega) (by omega)]
          omega
        have hkl : k + 1 ≤ (l.map intE).length := by
          rw [List.length_map]
          omega
        have hkl' : k ≤ (l.map intE).length := by omega
        have hfI : ∀ n, n ≤ 2000000 → fitsIn tt 3 n := fun n h => by
          have e : (tinfo tt 3).bytes = 8 := by kernel_rfl
          refine ⟨?_, ?_⟩
          · rw [e]; omega
          · simp only [maxLen]; omega
        repeat' ((conv => whnf); first | refine And.intro (fun h => h) ?_ | refine dcond_t (by assumption) ?_ | refine dcond_f (by assumption) ?_ | (refine dcond_intro ?_ ?_ <;> intro h) | exact .refl | refine And.intro (by kernel_rfl) ?_ | refine And.intro ⟨fun h => h, fun h => h⟩ ?_ | refine ⟨J.length - 1, _, And.intro ⟨hix, hgj⟩ ?_⟩ | refine .inl ⟨_, _, DleAll_refl _, ep, ?_⟩ | refine ⟨_, _, DleAll_refl _, fun _ => ep, ?_⟩ | refine ⟨_, _, DleAll_refl _, ep, ?_⟩ | refine ⟨0, k, And.intro ⟨rfl, ⟨_, rfl⟩, ⟨_, rfl⟩, Nat.zero_le _, hkl'⟩ ?_⟩ | refine ⟨k + 1, And.intro ⟨⟨_, congrArg (fun x => DV.v (Value.int .i64 x)) hk1⟩, hkl⟩ ?_⟩ | refine And.intro (hfI _ (by simp <;> omega)) ?_ | refine .inr ?_ | (refine And.intro ?_ ?_; focus (simp; done)) | fail)
        all_goals (conv => whnf)
        have hl1 : (l.take k ++ l.drop (k + 1)).length + 1 = l.length := by
          simp
          omega
        refine ⟨l.take k ++ l.drop (k + 1), ⟨by omega, by rw [hl1]; exact hinv⟩, by simp only []; omega, ?_⟩
        conv => whnf
        refine ⟨⟨.refl, dle_lst ?_, trivial⟩, ⟨.refl, trivial⟩, by rfl⟩
        rw [List.drop_zero, ← List.map_take, ← List.map_drop, List.map_append]
theorem c_law7_same (a b : List Int) (ha : a.length ≤ maxLen) (hb : b.length ≤ maxLen) : Ret Try.prog 15 [.lst 1 (a.map intE) false, .lst 1 (b.map intE) false] (.v (.bool (sameI a b))) := by
  have ha' : a.length ≤ 9223372036854775807 := ha
  have hd : sameI a b = (decide ((a.length : Int) = (b.length : Int)) && allB (fun i => decide (a.getD i 0 = b.getD i 0)) a.length) := rfl
  generalize sameI a b = res at *
  refine ret_of_body (fn := Try.f15) (c := Try.f15.body.getD .skip) hm hT (by kernel_rfl) Try.func15 (by kernel_rfl) (by kernel_rfl) (by kernel_rfl) (by kernel_rfl) ?_
  repeat' ((conv => whnf); first | refine And.intro (fun h => h) ?_ | refine dcond_t (by assumption) ?_ | refine dcond_f (by assumption) ?_ | (refine dcond_intro ?_ ?_ <;> intro h) | exact .refl | refine And.intro (by kernel_rfl) ?_ | refine And.intro ⟨fun h => h, fun h => h⟩ ?_ | (refine And.intro ?_ ?_; focus (simp; done)) | fail)
  all_goals (conv => whnf)
  · rw [List.length_map, List.length_map, Bool.not_eq_true'] at h
    rw [hd, h]
    exact .refl
  · rw [List.length_map, List.length_map, Bool.not_eq_false'] at h
    rw [h, Bool.true_and] at hd
    have hab : a.length = b.length := by
      have := of_decide_eq_true h
      omega
    clear h
    subst hd
    refine ⟨Nat, fun i => ⟨[(0, .lst 1 (a.map intE) false), (1, .lst 1 (b.map intE) false), (5, i64 i)], []⟩, fun i => i ≤ a.length ∧ ∀ j, j < i → decide (a.getD j 0 = b.getD j 0) = true, fun i => a.length - i, [], ⟨0, ⟨Nat.zero_le _, by omega⟩, ?_⟩, ?_⟩
    · conv => whnf
      exact ⟨⟨.refl, .refl, .refl, trivial⟩, trivial, by rfl⟩
    · intro i ⟨hi, hall⟩
      repeat' ((conv => whnf); first | refine And.intro (fun h => h) ?_ | refine dcond_t (by assumption) ?_ | refine dcond_f (by assumption) ?_ | (refine dcond_intro ?_ ?_ <;> intro h) | exact .refl | refine And.intro (by kernel_rfl) ?_ | refine And.intro ⟨fun h => h, fun h => h⟩ ?_ | (refine And.intro ?_ ?_; focus (simp; done)) | fail)
      · have hlt : i < a.length := by simpa using h
        have hlt2 : i < b.length := by omega
        clear h
        have ga : a.getD i 0 = a[i] := by simp [hlt]
        have gb : b.getD i 0 = b[i] := by simp [hlt2]
        repeat' ((conv => whnf); first | refine And.intro (fun h => h) ?_ | refine dcond_t (by assumption) ?_ | refine dcond_f (by assumption) ?_ | (refine dcond_intro ?_ ?_ <;> intro h) | exact .refl | refine And.intro (by kernel_rfl) ?_ | refine And.intro ⟨fun h => h, fun h => h⟩ ?_ | refine ⟨_, _, And.intro ⟨rfl, get_map hlt⟩ ?_⟩ | refine ⟨_, _, And.intro ⟨rfl, get_map hlt2⟩ ?_⟩ | (refine And.intro ?_ ?_; focus (simp; done)) | fail)
        all_goals (conv => whnf)
        · rw [Bool.not_eq_true'] at h
          rw [allB_false hlt (by rw [ga, gb, h])]
          exact .refl
        · rw [Bool.not_eq_false'] at h
          refine ⟨i + 1, ⟨hlt, fun j hj => ?_⟩, by simp only []; omega, ?_⟩
          · rcases Nat.lt_succ_iff_lt_or_eq.1 hj with hj | rfl
            · exact hall j hj
            · rw [ga, gb, h]
          · conv => whnf
            exact ⟨⟨.refl, .refl, dle_int (wrap_succ (by omega)), trivial⟩, trivial, by rfl⟩
      · have hge : ¬ i < a.length := by simpa using h
        conv => whnf
        refine dle_bool ?_
        rw [allB_true.2 (fun j hj => hall j (by omega))]
theorem c_ref6_Less (a b : Alr) : Ret Try.prog 44 [.agg (alE a), .agg (alE b)] (.v (.bool (lessB a b))) := by
  refine ret_of_body (fn := Try.f44) (c := Try.f44.body.getD .skip) hm hT (by kernel_rfl) Try.func44 (by kernel_rfl) (by kernel_rfl) (by kernel_rfl) (by kernel_rfl) ?_
  repeat' ((conv => whnf); first | refine And.intro (fun h => h) ?_ | refine dcond_t (by assumption) ?_ | refine dcond_f (by assumption) ?_ | (refine dcond_intro ?_ ?_ <;> intro h) | exact .refl | refine And.intro (by kernel_rfl) ?_ | refine And.intro ⟨fun h => h, fun h => h⟩ ?_ | (refine And.intro ?_ ?_; focus (simp; done)) | fail)
theorem c_ref6_Has (S : List Alr) (hl : S.length ≤ 1000000) (x r : Int) : Ret Try.prog 34 [.lst 4 (S.map alE) false, i64 x, i64 r] (.v (.bool (hasB S x r))) := by
  refine ret_of_body (fn := Try.f34) (c := Try.f34.body.getD .skip) hm hT (by kernel_rfl) Try.func34 (by kernel_rfl) (by kernel_rfl) (by kernel_rfl) (by kernel_rfl) ?_
  repeat' ((conv => whnf); first | refine And.intro (fun h => h) ?_ | refine dcond_t (by assumption) ?_ | refine dcond_f (by assumption) ?_ | (refine dcond_intro ?_ ?_ <;> intro h) | exact .refl | refine And.intro (by kernel_rfl) ?_ | refine And.intro ⟨fun h => h, fun h => h⟩ ?_ | (refine And.intro ?_ ?_; focus (simp; done)) | fail)
  all_goals (conv => whnf)
  refine ⟨Nat, fun i => ⟨[(0, .lst 4 (S.map alE) false), (1, i64 x), (2, i64 r), (7, i64 i)], []⟩, fun i => i ≤ S.length ∧ ((S.take i).any fun a => decide (a.subj = x) && decide (a.ring = r)) = false, fun i => S.length - i, [], ⟨0, ⟨Nat.zero_le _, by simp⟩, ?_⟩, ?_⟩
  · conv => whnf
    exact ⟨⟨.refl, .refl, .refl, .refl, trivial⟩, trivial, by rfl⟩
  · intro i ⟨hi, hno⟩
    repeat' ((conv => whnf); first | refine And.intro (fun h => h) ?_ | refine dcond_t (by assumption) ?_ | refine dcond_f (by assumption) ?_ | (refine dcond_intro ?_ ?_ <;> intro h) | exact .refl | refine And.intro (by kernel_rfl) ?_ | refine And.intro ⟨fun h => h, fun h => h⟩ ?_ | (refine And.intro ?_ ?_; focus (simp; done)) | fail)
    · have hlt : i < S.length := by simpa using h
      clear h
      repeat' ((conv => whnf); first | refine And.intro (fun h => h) ?_ | refine dcond_t (by assumption) ?_ | refine dcond_f (by assumption) ?_ | (refine dcond_intro ?_ ?_ <;> intro h) | exact .refl | refine And.intro (by kernel_rfl) ?_ | refine And.intro ⟨fun h => h, fun h => h⟩ ?_ | refine ⟨_, _, And.intro ⟨rfl, get_map hlt⟩ ?_⟩ | refine ⟨i, alE (S[i]'hlt), And.intro ⟨fun h => h, fun _ => ⟨rfl, get_map hlt⟩⟩ ?_⟩ | refine ⟨i, alE (S[i]'hlt), And.intro ⟨⟨fun h => h, fun h => h⟩, fun _ => ⟨rfl, get_map hlt⟩⟩ ?_⟩ | (refine And.intro ?_ ?_; focus (simp; done)) | fail)
      all_goals (conv => whnf)
      · have hhas : hasB S x r = true := by
          unfold hasB
          rw [List.any_eq_true]
          exact ⟨S[i], List.getElem_mem hlt, h⟩
        rw [hhas]
        exact .refl
      · refine ⟨i + 1, ⟨hlt, ?_⟩, by simp only []; omega, ?_⟩
        · rw [List.take_succ_eq_append_getElem hlt, List.any_append, hno, Bool.false_or]
          simp only [List.any_cons, List.any_nil, Bool.or_false]
          exact h
        · conv => whnf
          exact ⟨⟨.refl, .refl, .refl, dle_int (wrap_succ (by omega)), trivial⟩, trivial, by rfl⟩
    · have : i = S.length := by
        simp at h
        omega
      subst this
      rw [List.take_length] at hno
      have hhas : hasB S x r = false := hno
      rw [hhas]
      conv => whnf
      exact .refl
theorem c_ref6_Count (l : List Alr) (hl : l.length ≤ 1000000) (s : Int) : Ret Try.prog 26 [.lst 4 (l.map alE) false, i64 s] (i64 (cntI l s : Nat)) := by
  unfold cntI
  refine ret_of_body (fn := Try.f26) (c := Try.f26.body.getD .skip) hm hT (by kernel_rfl) Try.func26 (by kernel_rfl) (by kernel_rfl) (by kernel_rfl) (by kernel_rfl) ?_
  repeat' ((conv => whnf); first | refine And.intro (fun h => h) ?_ | refine dcond_t (by assumption) ?_ | refine dcond_f (by assumption) ?_ | (refine dcond_intro ?_ ?_ <;> intro h) | exact .refl | refine And.intro (by kernel_rfl) ?_ | refine And.intro ⟨fun h => h, fun h => h⟩ ?_ | (refine And.intro ?_ ?_; focus (simp; done)) | fail)
  all_goals (conv => whnf)
  refine ⟨Nat, fun i => ⟨[(0, .lst 4 (l.map alE) false), (1, i64 s), (5, i64 (cntS l s i : Nat)), (6, i64 i)], []⟩, fun i => i ≤ l.length, fun i => l.length - i, [], ⟨0, Nat.zero_le _, ?_⟩, ?_⟩
  · conv => whnf
    exact ⟨⟨.refl, .refl, .refl, .refl, trivial⟩, trivial, by rfl⟩
  · intro i hi
    repeat' ((conv => whnf); first | refine And.intro (fun h => h) ?_ | refine dcond_t (by assumption) ?_ | refine dcond_f (by assumption) ?_ | (refine dcond_intro ?_ ?_ <;> intro h) | exact .refl | refine And.intro (by kernel_rfl) ?_ | refine And.intro ⟨fun h => h, fun h => h⟩ ?_ | (refine And.intro ?_ ?_; focus (simp; done)) | fail)
    · have hlt : i < l.length := by simpa using h
      clear h
      have hs := cnt_succ (s := s) hlt
      have hc := cnt_le l s i
      repeat' ((conv => whnf); first | refine And.intro (fun h => h) ?_ | refine dcond_t (by assumption) ?_ | refine dcond_f (by assumption) ?_ | (refine dcond_intro ?_ ?_ <;> intro h) | exact .refl | refine And.intro (by kernel_rfl) ?_ | refine And.intro ⟨fun h => h, fun h => h⟩ ?_ | refine ⟨_, _, And.intro ⟨rfl, get_map hlt⟩ ?_⟩ | (refine And.intro ?_ ?_; focus (simp; done)) | fail)
      all_goals (conv => whnf)
      all_goals refine ⟨i + 1, hlt, by simp only []; omega, ?_⟩
      all_goals (conv => whnf)
      all_goals refine ⟨⟨.refl, .refl, dle_int ?_, dle_int (wrap_succ (by omega)), trivial⟩, trivial, by rfl⟩
      · rw [hs, if_pos (of_decide_eq_true h), wrap_i64 (by omega) (by omega)]
        omega
      · rw [hs, if_neg (of_decide_eq_false h)]
        rfl
    · have : i = l.length := by
        simp at h
        omega
      subst this
      repeat' ((conv => whnf); first | refine And.intro (fun h => h) ?_ | refine dcond_t (by assumption) ?_ | refine dcond_f (by assumption) ?_ | (refine dcond_intro ?_ ?_ <;> intro h) | exact .refl | refine And.intro (by kernel_rfl) ?_ | refine And.intro ⟨fun h => h, fun h => h⟩ ?_ | (refine And.intro ?_ ?_; focus (simp; done)) | fail)
end Go.Proofs.Ytpipaadjokdgoaa

set_option linter.unusedSimpArgs false
set_option linter.unusedVariables false
set_option maxRecDepth 100000
namespace Go.Proofs.Ytpipaadjokdgoaa
open Go.Lift
/-! actorgridref6.Put; the sets of the laws -/
theorem insK_le (S : List Alr) (a : Alr) : insK S a ≤ S.length := (List.takeWhile_prefix _).length_le
theorem has_iff {S : List Alr} {x r : Int} : hasB S x r = true ↔ ∃ a ∈ S, a.subj = x ∧ a.ring = r := by
  unfold hasB
  simp only [List.any_eq_true, Bool.and_eq_true, decide_eq_true_eq]
theorem less_key {a b c : Alr} (h1 : b.subj = c.subj) (h2 : b.ring = c.ring) : lessB a b = lessB a c ∧ lessB b a = lessB c a := by
  unfold lessB
  rw [h1, h2]
  exact ⟨rfl, rfl⟩
theorem put_fact {S : List Alr} (hs : srt S) (a : Alr) : (hasB S a.subj a.ring = true → (insR S a).1 = S) ∧
    (hasB S a.subj a.ring = false → (insR S a).1 = S.take (insK S a) ++ [a] ++ S.drop (insK S a) ∧ ∀ i (h : i < S.length), (i < insK S a → lessB a S[i] = false) ∧ (i = insK S a → lessB a S[i] = true)) := by
  have hb : ∀ x ∈ S.take (insK S a), lessB x a = true := fun x hx => tw_before (p := fun y => lessB y a) hx
  have hat : ∀ h : insK S a < S.length, lessB S[insK S a] a = false := fun h => tw_at (p := fun y => lessB y a) h
  have hkl := insK_le S a
  have hd : insR S a = bif decide (((insK S a : Nat) : Int) < (S.length : Int)) && !lessB a (S.getD (insK S a) alr0) then (S, false) else (S.take (insK S a) ++ [a] ++ S.drop (insK S a), true) := rfl
  generalize insK S a = K at *
  have hlow : ∀ i (h : i < S.length), i < K → lessB S[i] a = true := fun i h hi => hb _ (List.mem_iff_getElem.2 ⟨i, by simp; omega, by rw [List.getElem_take]⟩)
  constructor
  · intro h
    obtain ⟨e, he, h1, h2⟩ := has_iff.1 h
    obtain ⟨j, hj, rfl⟩ := List.getElem_of_mem he
    have hjf : lessB S[j] a = false := by rw [(less_key (a := a) h1 h2).2, less_irr]
    have hjK : ¬ j < K := fun hlt => by rw [hlow j hj hlt] at hjf; cases hjf
    have hKl : K < S.length := by omega
    have hjeq : j = K := by
      rcases Nat.lt_or_eq_of_le (Nat.le_of_not_lt hjK) with h3 | h3
      · have h4 := List.pairwise_iff_getElem.1 hs K j hKl hj h3
        rw [(less_key (a := S[K]) h1 h2).1, hat hKl] at h4
        cases h4
      · exact h3.symm
    subst hjeq
    have hg : S.getD j alr0 = S[j] := by simp [hj]
    rw [hd, hg, decide_eq_true (show ((j : Nat) : Int) < (S.length : Int) by omega), (less_key (a := a) h1 h2).1, less_irr]
    rfl
  · intro h
    have hKt : ∀ (hK : K < S.length), lessB a S[K] = true := fun hK => by
      cases hl : lessB a S[K]
      · have h3 := less_tot (hat hK) hl
        have := has_iff.2 ⟨S[K], List.getElem_mem hK, h3.1, h3.2⟩
        rw [h] at this
        cases this
      · rfl
    refine ⟨?_, fun i hi => ⟨fun hlt => ?_, fun he => ?_⟩⟩
    · rw [hd]
      by_cases hK : K < S.length
      · have hg : S.getD K alr0 = S[K] := by simp [hK]
        rw [hg, hKt hK]
        simp
      · rw [decide_eq_false (show ¬ ((K : Nat) : Int) < (S.length : Int) by omega)]
        rfl
    · cases hl : lessB a S[i]
      · rfl
      · have := less_trans hl (hlow i hi hlt)
        rw [less_irr] at this
        cases this
    · subst he
      exact hKt hi
def putA (S : List Alr) (a : Alr) (K i : Nat) : List Alr := if i ≤ K then S.take i else S.take K ++ [a] ++ (S.take i).drop K
theorem putA_len {S : List Alr} {a : Alr} {K i : Nat} : (putA S a K i).length ≤ i + K + 1 := by
  unfold putA
  split <;> simp <;> omega
theorem putA_lt {S : List Alr} {a : Alr} {K i : Nat} (h : i < S.length) (hk : i < K) : putA S a K (i + 1) = putA S a K i ++ [S[i]] := by
  unfold putA
  rw [if_pos (by omega), if_pos (by omega), List.take_succ_eq_append_getElem h]
theorem putA_eq {S : List Alr} {a : Alr} {K : Nat} (h : K < S.length) : putA S a K (K + 1) = putA S a K K ++ [a] ++ [S[K]] := by
  unfold putA
  rw [if_neg (by omega), if_pos (by omega), List.take_succ_eq_append_getElem h, List.drop_append_of_le_length (by simp; omega), List.drop_of_length_le (by simp; omega)]
  simp
theorem putA_gt {S : List Alr} {a : Alr} {K i : Nat} (h : i < S.length) (hk : K < i) : putA S a K (i + 1) = putA S a K i ++ [S[i]] := by
  unfold putA
  rw [if_neg (by omega), if_neg (by omega), List.take_succ_eq_append_getElem h, List.drop_append_of_le_length (by simp; omega)]
  simp
theorem c_ref6_Put (S : List Alr) (hs : srt S) (hl : S.length ≤ 500000) (a : Alr) : Ret Try.prog 24 [.lst 4 (S.map alE) false, .agg (alE a)] (.lst 4 ((insR S a).1.map alE) false) := by
  have e1 := c_ref6_Has S (by omega) a.subj a.ring
  obtain ⟨f1, f2⟩ := put_fact hs a
  have hkl := insK_le S a
  generalize (insR S a).1 = res at *
  generalize hasB S a.subj a.ring = hb at *
  generalize insK S a = K at *
  refine ret_of_body (fn := Try.f24) (c := Try.f24.body.getD .skip) hm hT (by kernel_rfl) Try.func24 (by kernel_rfl) (by kernel_rfl) (by kernel_rfl) (by kernel_rfl) ?_
  repeat' ((conv => whnf); first | refine And.intro (fun h => h) ?_ | refine dcond_t (by assumption) ?_ | refine dcond_f (by assumption) ?_ | (refine dcond_intro ?_ ?_ <;> intro h) | exact .refl | refine And.intro (by kernel_rfl) ?_ | refine And.intro ⟨fun h => h, fun h => h⟩ ?_ | refine .inl ⟨_, _, DleAll_refl _, e1, ?_⟩ | refine ⟨_, _, DleAll_refl _, fun _ => e1, ?_⟩ | refine ⟨_, _, DleAll_refl _, e1, ?_⟩ | (refine And.intro ?_ ?_; focus (simp; done)) | fail)
  all_goals (conv => whnf)
  · rw [f1 h]
    refine And.intro (fitsA (by simp <;> omega)) ?_
    repeat' ((conv => whnf); first | refine And.intro (fun h => h) ?_ | refine dcond_t (by assumption) ?_ | refine dcond_f (by assumption) ?_ | (refine dcond_intro ?_ ?_ <;> intro h) | exact .refl | refine And.intro (by kernel_rfl) ?_ | refine And.intro ⟨fun h => h, fun h => h⟩ ?_ | (refine And.intro ?_ ?_; focus (simp; done)) | fail)
    all_goals (conv => whnf)
    try exact .refl
  · obtain ⟨hres, hc⟩ := f2 h
    clear h f1 f2
    subst hres
    refine ⟨Nat × Bool × List Alr, fun x => ⟨[(0, .lst 4 (S.map alE) false), (3, .lp 0 0), (5, .own 1), (6, .v (.bool x.2.1)), (7, i64 x.1)], [.cells 48 (alE a), .row 48 4 (x.2.2.map alE)]⟩, fun x => x.1 ≤ S.length ∧ x.2.1 = decide (K < x.1) ∧ x.2.2 = putA S a K x.1, fun x => S.length - x.1, [.slot 5 48 4], ⟨⟨0, false, []⟩, ⟨Nat.zero_le _, (decide_eq_false (by omega)).symm, by simp [putA]⟩, ?_⟩, ?_⟩
    · conv => whnf
      exact ⟨⟨.refl, .refl, .refl, .refl, .refl, trivial⟩, ⟨.refl, .refl, trivial⟩, by rfl⟩
    · intro ⟨i, kb, pa⟩ ⟨hi, hkb, hpa⟩
      simp only [] at hi hkb hpa
      have hpl := putA_len (S := S) (a := a) (K := K) (i := i)
      rw [← hpa] at hpl
      repeat' ((conv => whnf); first | refine And.intro (fun h => h) ?_ | refine dcond_t (by assumption) ?_ | refine dcond_f (by assumption) ?_ | (refine dcond_intro ?_ ?_ <;> intro h) | exact .refl | refine And.intro (by kernel_rfl) ?_ | refine And.intro ⟨fun h => h, fun h => h⟩ ?_ | (refine And.intro ?_ ?_; focus (simp; done)) | fail)
      · have hlt : i < S.length := by simpa using h
        clear h
        obtain ⟨c1, c2⟩ := hc i hlt
        have e2 := c_ref6_Less a S[i]
        have hnext : ((!decide (K < i) && lessB a S[i]) = true → putA S a K (i + 1) = putA S a K i ++ [a] ++ [S[i]] ∧ decide (K < i + 1) = true) ∧ ((!decide (K < i) && lessB a S[i]) = false → putA S a K (i + 1) = putA S a K i ++ [S[i]] ∧ decide (K < i + 1) = decide (K < i)) := by
          rcases Nat.lt_trichotomy i K with h | h | h
          · rw [c1 h, Bool.and_false]
            refine ⟨fun h => (by cases h), fun _ => ⟨putA_lt hlt h, ?_⟩⟩
            rw [decide_eq_false (by omega), decide_eq_false (by omega)]
          · subst h
            rw [c2 rfl, decide_eq_false (by omega)]
            exact ⟨fun _ => ⟨putA_eq hlt, decide_eq_true (by omega)⟩, fun h => by cases h⟩
          · rw [decide_eq_true h]
            refine ⟨fun h => (by simp at h), fun _ => ⟨putA_gt hlt h, decide_eq_true (by omega)⟩⟩
        rw [← hkb, ← hpa] at hnext
        clear c1 c2
        generalize lessB a S[i] = ls at *
        repeat' ((conv => whnf); first | refine And.intro (fun h => h) ?_ | refine dcond_t (by assumption) ?_ | refine dcond_f (by assumption) ?_ | (refine dcond_intro ?_ ?_ <;> intro h) | exact .refl | refine And.intro (by kernel_rfl) ?_ | refine And.intro ⟨fun h => h, fun h => h⟩ ?_ | refine ⟨_, _, And.intro ⟨rfl, get_map hlt⟩ ?_⟩ | refine ⟨i, alE (S[i]'hlt), And.intro ⟨fun h => h, fun _ => ⟨rfl, get_map hlt⟩⟩ ?_⟩ | refine ⟨i, alE (S[i]'hlt), And.intro ⟨⟨fun h => h, fun h => h⟩, fun _ => ⟨rfl, get_map hlt⟩⟩ ?_⟩ | refine .inl ⟨_, _, DleAll_refl _, e2, ?_⟩ | refine ⟨_, _, DleAll_refl _, fun _ => e2, ?_⟩ | refine ⟨_, _, DleAll_refl _, e2, ?_⟩ | refine And.intro (fitsA (by simp <;> omega)) ?_ | (refine And.intro ?_ ?_; focus (simp; done)) | fail)
        all_goals (conv => whnf)
        · have hn := hnext.1 h
          refine ⟨⟨i + 1, true, pa ++ [a] ++ [S[i]]⟩, ⟨hlt, hn.2.symm, hn.1.symm⟩, by simp only []; omega, ?_⟩
          conv => whnf
          refine ⟨⟨.refl, .refl, .refl, .refl, dle_int (wrap_succ (by omega)), trivial⟩, ⟨.refl, ole_row ?_, trivial⟩, by rfl⟩
          rw [List.map_append, List.map_append]
          rfl
        · have hn := hnext.2 h
          refine ⟨⟨i + 1, kb, pa ++ [S[i]]⟩, ⟨hlt, hn.2.symm, hn.1.symm⟩, by simp only []; omega, ?_⟩
          conv => whnf
          refine ⟨⟨.refl, .refl, .refl, .refl, dle_int (wrap_succ (by omega)), trivial⟩, ⟨.refl, ole_row ?_, trivial⟩, by rfl⟩
          rw [List.map_append]
          rfl
      · have hK : ¬ K < i := fun hlt => by
          rw [decide_eq_true hlt] at hkb
          subst hkb
          cases h
        rename_i h0
        have : i = S.length := by
          simp at h0
          omega
        subst this
        repeat' ((conv => whnf); first | refine And.intro (fun h => h) ?_ | refine dcond_t (by assumption) ?_ | refine dcond_f (by assumption) ?_ | (refine dcond_intro ?_ ?_ <;> intro h) | exact .refl | refine And.intro (by kernel_rfl) ?_ | refine And.intro ⟨fun h => h, fun h => h⟩ ?_ | refine And.intro (fitsA (by simp <;> omega)) ?_ | (refine And.intro ?_ ?_; focus (simp; done)) | fail)
        all_goals (conv => whnf)
        have hKe : K = S.length := by omega
        refine dle_lst ?_
        simp only []
        rw [hpa]
        unfold putA
        rw [if_pos (by omega), hKe, List.drop_length, List.append_nil, List.map_append]
        rfl
      · have hK : K < i := by
          by_cases hlt : K < i
          · exact hlt
          · rw [decide_eq_false hlt] at hkb
            subst hkb
            cases h
        rename_i h0
        have : i = S.length := by
          simp at h0
          omega
        subst this
        repeat' ((conv => whnf); first | refine And.intro (fun h => h) ?_ | refine dcond_t (by assumption) ?_ | refine dcond_f (by assumption) ?_ | (refine dcond_intro ?_ ?_ <;> intro h) | exact .refl | refine And.intro (by kernel_rfl) ?_ | refine And.intro ⟨fun h => h, fun h => h⟩ ?_ | (refine And.intro ?_ ?_; focus (simp; done)) | fail)
        all_goals (conv => whnf)
        refine dle_lst ?_
        simp only []
        rw [hpa]
        unfold putA
        rw [if_neg (by omega), List.take_length]
end Go.Proofs.Ytpipaadjokdgoaa

set_option linter.unusedSimpArgs false
set_option linter.unusedVariables false
set_option maxRecDepth 100000
namespace Go.Proofs.Ytpipaadjokdgoaa
open Go.Lift
/-! suspects: plain facts -/
theorem val_obs7 {v : View} {a : Alr} (ha : valA v a = true) : 1 ≤ a.subj ∧ a.subj ≤ 1000 ∧ 0 ≤ a.ring ∧ a.ring < 5 ∧ a.view = v.num ∧ (obsR v.mem a.subj).length = 5 ∧ (obsR v.mem a.subj).getD a.ring.toNat 0 = a.obs := by
  obtain ⟨_, h1, h2, h3, h4⟩ := valA_parts ha
  simp only [ranB, Bool.and_eq_true, decide_eq_true_eq] at h2
  have h5 : (obsR v.mem a.subj).length = 0 ∨ (obsR v.mem a.subj).length = 5 := by
    unfold obsR
    cases (!idsB v.mem 16 || !(decide (1 ≤ a.subj) && decide (a.subj ≤ 1000)) || (decide ((v.mem.length : Int) = 1) && decide (v.mem.getD 0 0 = a.subj))) <;> simp
  generalize obsR v.mem a.subj = R at *
  exact ⟨by omega, by omega, by omega, by omega, h1, by omega, h4⟩
theorem gat_set7 {v : View} (hvw : viewB v = true) {P : List Alr} (hP : ∀ a ∈ P, valA v a = true) : valS v (gatR P P.length) = true ∧ (gatR P P.length).length ≤ P.length ∧ ∀ x, x ∈ gatR P P.length ↔ x ∈ P := by
  have hgk := gat_ok hP _ (Nat.le_refl _)
  have hm : ∀ x, x ∈ gatR P P.length ↔ x ∈ P := fun x => by rw [hgk.2.2, List.take_length]
  exact ⟨valS_iff.2 ⟨hvw, fun a ha => hP a ((hm a).1 ha), hgk.1⟩, hgk.2.1, hm⟩
theorem val_key7 {v : View} {S : List Alr} (hS : valS v S = true) {a b : Alr} (ha : a ∈ S) (hb : b ∈ S) (h1 : a.subj = b.subj) (h2 : a.ring = b.ring) : a = b :=
  val_key ((valS_iff.1 hS).2.1 a ha) ((valS_iff.1 hS).2.1 b hb) h1 h2
theorem cnt_rings {v : View} {S : List Alr} (h : valS v S = true) (x : Int) : cntI S x = (List.range 5).countP fun r => hasB S x (r : Nat) := by
  obtain ⟨_, hv, hs⟩ := valS_iff.1 h
  rw [cntI_eq, List.countP_eq_length_filter, List.countP_eq_length_filter]
  have e : (S.filter fun a => decide (a.subj = x)).map (·.ring) = ((List.range 5).filter fun r => hasB S x (r : Nat)).map (fun r : Nat => (r : Int)) := by
    refine up_ext ?_ ?_ fun r => ?_
    · rw [List.pairwise_map]
      refine List.Pairwise.imp_of_mem (fun {a b} ha hb hab => ?_) (hs.sublist (List.filter_sublist ..))
      have e1 : a.subj = x := by simpa using (List.mem_filter.1 ha).2
      have e2 : b.subj = x := by simpa using (List.mem_filter.1 hb).2
      simp only [lessB, Bool.or_eq_true, Bool.and_eq_true, decide_eq_true_eq] at hab
      omega
    · rw [List.pairwise_map]
      exact ((List.pairwise_lt_range (n := 5)).sublist (List.filter_sublist ..)).imp fun h => by omega
    · simp only [List.mem_map, List.mem_filter, decide_eq_true_eq, List.mem_range]
      constructor
      · rintro ⟨a, ⟨ha, hx⟩, rfl⟩
        have := val_obs7 (hv a ha)
        exact ⟨a.ring.toNat, ⟨by omega, has_iff.2 ⟨a, ha, hx, by omega⟩⟩, by omega⟩
      · rintro ⟨k, ⟨hk, hh⟩, rfl⟩
        obtain ⟨a, ha, hx, hr⟩ := has_iff.1 hh
        exact ⟨a, ⟨ha, hx⟩, hr⟩
  have := congrArg List.length e
  simpa using this
theorem cnt_or {α : Type} (p q : α → Bool) : ∀ l : List α, l.countP p + l.countP (fun x => !p x && q x) = l.countP fun x => p x || q x
  | [] => rfl
  | x :: l => by
    have ih := cnt_or p q l
    simp only [List.countP_cons]
    cases p x <;> cases q x <;> simp <;> omega
/-- on how many rings a subject is reported, or its observer is itself suspected -/
def scoreR (v : View) (S : List Alr) (x : Int) : Nat := (List.range 5).countP fun r => hasB S x (r : Nat) || decide (2 ≤ cntI S ((obsR v.mem x).getD r 0))
theorem cnt_obs {v : View} {S : List Alr} (h : valS v S = true) {x : Int} (hc : 1 ≤ cntI S x) : x ∈ S.map (·.subj) ∧ (obsR v.mem x).length = 5 := by
  rw [cntI_eq] at hc
  obtain ⟨a, ha, hx⟩ := List.countP_pos_iff.1 hc
  have hx : a.subj = x := by simpa using hx
  subst hx
  exact ⟨List.mem_map.2 ⟨a, ha, rfl⟩, (val_obs7 ((valS_iff.1 h).2.1 a ha)).2.2.2.2.2.1⟩
theorem score_eq {v : View} {S : List Alr} (h : valS v S = true) {x : Int} (hc : 1 ≤ cntI S x) : cntI S x + impAt S (obsR v.mem x) x (obsR v.mem x).length = scoreR v S x := by
  obtain ⟨_, h5⟩ := cnt_obs h hc
  have := cnt_or (fun r : Nat => hasB S x (r : Nat)) (fun r => decide (2 ≤ cntI S ((obsR v.mem x).getD r 0))) (List.range 5)
  rw [← cnt_rings h x] at this
  rw [h5]
  exact this
theorem tal_sum {v : View} {S : List Alr} (h : valS v S = true) {x : Int} (hc : 2 ≤ cntI S x) : (talOf v S x).exp + (talOf v S x).imp = scoreR v S x := by
  rw [talOf_hi hc]
  exact score_eq h (by omega)
theorem sus_iff {v : View} {S : List Alr} (h : valS v S = true) {b : Bool} {x : Int} : x ∈ susR v S b ↔ 2 ≤ cntI S x ∧ decide (4 ≤ scoreR v S x) = b := by
  unfold susR countsR
  rw [h]
  simp only [Bool.not_true, cond_false, List.mem_map, List.mem_filter]
  constructor
  · rintro ⟨t, ⟨⟨y, hy, rfl⟩, ht⟩, rfl⟩
    unfold susB at ht
    rw [Bool.and_eq_true, decide_eq_true_eq, beq_iff_eq] at ht
    have hc : 2 ≤ cntI S y := ht.1
    rw [tal_sum h hc] at ht
    exact ht
  · rintro ⟨h1, h2⟩
    refine ⟨talOf v S x, ⟨⟨x, setI_mem.2 (cnt_obs h (by omega)).1, rfl⟩, ?_⟩, rfl⟩
    unfold susB
    rw [tal_sum h h1, h2, decide_eq_true (show 2 ≤ (talOf v S x).exp from h1)]
    simp
theorem sus_up (v : View) (S : List Alr) (b : Bool) : (susR v S b).Pairwise fun x y => x < y := by
  unfold susR countsR
  cases !valS v S
  · rw [cond_false, List.pairwise_map]
    refine List.Pairwise.sublist (List.filter_sublist ..) ?_
    rw [List.pairwise_map]
    exact setI_up _
  · simp
theorem sus_eq {v : View} {S T : List Alr} (hS : valS v S = true) (hT : valS v T = true) {b : Bool} (h : ∀ x, (2 ≤ cntI S x ∧ decide (4 ≤ scoreR v S x) = b) ↔ (2 ≤ cntI T x ∧ decide (4 ≤ scoreR v T x) = b)) : susR v S b = susR v T b :=
  up_ext (sus_up v S b) (sus_up v T b) fun x => by rw [sus_iff hS, sus_iff hT, h]
theorem has_mono {S T : List Alr} (h : ∀ a ∈ S, a ∈ T) {x r : Int} (hh : hasB S x r = true) : hasB T x r = true := by
  obtain ⟨a, ha, h1, h2⟩ := has_iff.1 hh
  exact has_iff.2 ⟨a, h a ha, h1, h2⟩
theorem cnt_mono {v : View} {S T : List Alr} (hS : valS v S = true) (hT : valS v T = true) (h : ∀ a ∈ S, a ∈ T) (x : Int) : cntI S x ≤ cntI T x := by
  rw [cnt_rings hS, cnt_rings hT]
  exact List.countP_mono_left fun r _ hr => has_mono h hr
theorem score_mono {v : View} {S T : List Alr} (hS : valS v S = true) (hT : valS v T = true) (h : ∀ a ∈ S, a ∈ T) (x : Int) : scoreR v S x ≤ scoreR v T x := by
  unfold scoreR
  refine List.countP_mono_left fun r _ hr => ?_
  rw [Bool.or_eq_true, decide_eq_true_eq] at hr ⊢
  rcases hr with hr | hr
  · exact .inl (has_mono h hr)
  · have := cnt_mono hS hT h ((obsR v.mem x).getD r 0)
    exact .inr (by omega)
/-! what Propose returns -/
theorem prop_app {v : View} : ∀ (n : Nat) (l : List Int), (propF v n l).2 = true → (nextR v (propF v n l).1).2 = 0 ∧ ((propF v n l).1 = l ∨ (propF v n l).1.length < l.length)
  | 0, l, h => by
    rw [propF] at h
    cases h
  | n + 1, l, h => by
    rw [propF] at h ⊢
    cases h0 : decide ((nextR v l).2 = 0)
    · rw [h0, cond_false] at h
      rw [cond_false]
      cases h1 : (!decide ((nextR v l).2 = 5) || decide (((comeL v l).length : Int) = 0))
      · rw [h1, cond_false] at h
        rw [cond_false]
        have ih := prop_app n _ h
        rw [Bool.or_eq_false_iff] at h1
        have hJ : (comeL v l).length ≠ 0 := by
          have := of_decide_eq_false h1.2
          omega
        obtain ⟨k, hk, hpl, _⟩ := come_last hJ
        refine ⟨ih.1, .inr ?_⟩
        rw [hpl, Int.toNat_natCast] at ih ⊢
        have hl1 : (l.take k ++ l.drop (k + 1)).length + 1 = l.length := by
          simp
          omega
        rcases ih.2 with h2 | h2
        · rw [h2]
          omega
        · omega
      · rw [h1, cond_true] at h
        cases h
    · rw [cond_true]
      exact ⟨of_decide_eq_true h0, .inl rfl⟩
theorem prop_no {v : View} : ∀ (n : Nat) (l : List Int), (propF v n l).2 = false → (propF v n l).1 = []
  | 0, l, _ => by rw [propF]
  | n + 1, l, h => by
    rw [propF] at h ⊢
    cases h0 : decide ((nextR v l).2 = 0)
    · rw [h0, cond_false] at h
      rw [cond_false]
      cases h1 : (!decide ((nextR v l).2 = 5) || decide (((comeL v l).length : Int) = 0))
      · rw [h1, cond_false] at h
        rw [cond_false]
        exact prop_no n _ h
      · rw [cond_true]
    · rw [h0, cond_true] at h
      cases h
theorem prop_ok {v : View} {l : List Int} (h : (nextR v l).2 = 0) : propL v l = (l, true) := by
  rw [propL, prop_eq, decide_eq_true h]
  rfl
theorem next_nil (v : View) : (nextR v []).2 = 1 := by
  unfold nextR
  have : idsB [] 32 = false := by kernel_rfl
  rw [this]
  simp
theorem prop_nil (v : View) : propL v [] = ([], false) := by
  rw [propL, prop_eq, next_nil]
  rfl
def setA (v : View) (l : List Nat) : List Alr := gatR (pairsR v l l.length) (pairsR v l l.length).length
theorem c_law7_set (v : View) (hv : v.mem.length ≤ maxLen) (hvw : viewB v = true) (l : List Nat) (hl : l.length ≤ 1000) (hlb : ∀ x ∈ l, x ≤ 65535) : Ret Try.prog 20 [.agg (viewE v), .lst 1 (l.map bE16) false] (.lst 4 ((setA v l).map alE) false) := by
  have e1 := c_Pairs v hv hvw l hl hlb
  have hpl := pairs_len (v := v) (l := l) l.length (Nat.le_refl _)
  have hpv := pairs_val hvw l l.length
  unfold setA
  generalize pairsR v l l.length = P at *
  refine ret_of_body (fn := Try.f20) (c := Try.f20.body.getD .skip) hm hT (by kernel_rfl) Try.func20 (by kernel_rfl) (by kernel_rfl) (by kernel_rfl) (by kernel_rfl) ?_
  repeat' ((conv => whnf); first | refine And.intro (fun h => h) ?_ | refine dcond_t (by assumption) ?_ | refine dcond_f (by assumption) ?_ | (refine dcond_intro ?_ ?_ <;> intro h) | exact .refl | refine And.intro (by kernel_rfl) ?_ | refine And.intro ⟨fun h => h, fun h => h⟩ ?_ | refine .inl ⟨_, _, DleAll_refl _, e1, ?_⟩ | refine ⟨_, _, DleAll_refl _, fun _ => e1, ?_⟩ | refine ⟨_, _, DleAll_refl _, e1, ?_⟩ | (refine And.intro ?_ ?_; focus (simp; done)) | fail)
  all_goals (conv => whnf)
  refine ⟨Nat, fun i => ⟨[(5, .lst 4 ((gatR P i).map alE) false), (6, .lst 4 (P.map alE) false), (7, i64 i)], [.cells 24 (viewE v)]⟩, fun i => i ≤ P.length, fun i => P.length - i, [], ⟨0, Nat.zero_le _, ?_⟩, ?_⟩
  · conv => whnf
    exact ⟨⟨.nl, .refl, .refl, trivial⟩, ⟨.refl, trivial⟩, by rfl⟩
  · intro i hi
    obtain ⟨g1, g2, _⟩ := gat_ok hpv i hi
    repeat' ((conv => whnf); first | refine And.intro (fun h => h) ?_ | refine dcond_t (by assumption) ?_ | refine dcond_f (by assumption) ?_ | (refine dcond_intro ?_ ?_ <;> intro h) | exact .refl | refine And.intro (by kernel_rfl) ?_ | refine And.intro ⟨fun h => h, fun h => h⟩ ?_ | (refine And.intro ?_ ?_; focus (simp; done)) | fail)
    · have hlt : i < P.length := by simpa using h
      clear h
      have ep := c_ref6_Put (gatR P i) g1 (by omega) P[i]
      rw [← gat_succ hlt] at ep
      repeat' ((conv => whnf); first | refine And.intro (fun h => h) ?_ | refine dcond_t (by assumption) ?_ | refine dcond_f (by assumption) ?_ | (refine dcond_intro ?_ ?_ <;> intro h) | exact .refl | refine And.intro (by kernel_rfl) ?_ | refine And.intro ⟨fun h => h, fun h => h⟩ ?_ | refine ⟨_, _, And.intro ⟨rfl, get_map hlt⟩ ?_⟩ | refine .inl ⟨_, _, DleAll_refl _, ep, ?_⟩ | refine ⟨_, _, DleAll_refl _, fun _ => ep, ?_⟩ | refine ⟨_, _, DleAll_refl _, ep, ?_⟩ | (refine And.intro ?_ ?_; focus (simp; done)) | fail)
      all_goals (conv => whnf)
      refine ⟨i + 1, hlt, by simp only []; omega, ?_⟩
      conv => whnf
      exact ⟨⟨.refl, .refl, dle_int (wrap_succ (by omega)), trivial⟩, ⟨.refl, trivial⟩, by rfl⟩
    · have : i = P.length := by
        simp at h
        omega
      subst this
      repeat' ((conv => whnf); first | refine And.intro (fun h => h) ?_ | refine dcond_t (by assumption) ?_ | refine dcond_f (by assumption) ?_ | (refine dcond_intro ?_ ?_ <;> intro h) | exact .refl | refine And.intro (by kernel_rfl) ?_ | refine And.intro ⟨fun h => h, fun h => h⟩ ?_ | (refine And.intro ?_ ?_; focus (simp; done)) | fail)
theorem setA_ok {v : View} (hvw : viewB v = true) (l : List Nat) : valS v (setA v l) = true ∧ (setA v l).length ≤ l.length ∧ ∀ x, x ∈ setA v l ↔ x ∈ pairsR v l l.length := by
  have hpl := pairs_len (v := v) (l := l) l.length (Nat.le_refl _)
  obtain ⟨h1, h2, h3⟩ := gat_set7 hvw (pairs_val hvw l l.length)
  exact ⟨h1, Nat.le_trans h2 hpl, h3⟩
end Go.Proofs.Ytpipaadjokdgoaa

set_option linter.unusedSimpArgs false
set_option linter.unusedVariables false
set_option maxRecDepth 100000
namespace Go.Proofs.Ytpipaadjokdgoaa
open Go.Lift
/-! the law's own check -/
theorem prv_ne {ms : List Int} {x y : Int} {r : Nat} (hv : idsB ms 16 = true) (hr : r < 5) (hx : x ∈ ms) (hy : y ∈ ms) (hne : y ≠ x) : prvR ms x r ≠ x := by
  intro he
  have hO := order_lt (r := (r : Nat)) hv (by omega) (by omega)
  have ho := order_in (ms := ms) (r := (r : Nat)) hv (by omega) (by omega)
  have hol : (orderR ms (r : Nat)).length = ms.length := by rw [ho, sortL_len]
  have h16 := (ids_pw.1 hv).1
  have hmem : ∀ m, m ∈ orderR ms (r : Nat) ↔ m ∈ ms := fun m => by rw [ho, sortL_mem]
  have hbx := (ids_pw.1 hv).2.2 x hx
  have hby := (ids_pw.1 hv).2.2 y hy
  unfold prvR at he
  generalize orderR ms (r : Nat) = O at *
  have hm := (ahd_min (x := x) hO (by omega) O.length (Nat.le_refl _)).2.2
  rw [he] at hm
  obtain ⟨j, hj, hyj⟩ := List.getElem_of_mem ((hmem y).2 hy)
  have h1 := hm j hj
  have hg : O.getD j 0 = y := by simp [hj, hyj]
  rw [hg] at h1
  have hxx : dstR r x x = posR r x - posR r x - 1 + 18446744073709551616 := dst_ge (Int.lt_irrefl _)
  have p1 := posR_rng r x
  have p2 := posR_rng r y
  by_cases hlt : posR r y < posR r x
  · rw [hxx, dst_lt hlt] at h1
    omega
  · rw [hxx, dst_ge hlt] at h1
    exact hne (posR_inj (r := (r : Nat)) hby hbx (by omega))
def ckW : View := ⟨0, [1, 2, 3]⟩
def ckS (o : List Int) : List Alr := (List.range 5).map fun r => ⟨0, (r : Nat), o.getD r 0, 3⟩
theorem ck_obs : ∃ a b c d e : Int, obsR [1, 2, 3] 3 = [a, b, c, d, e] ∧ (a = 1 ∨ a = 2) ∧ (b = 1 ∨ b = 2) ∧ (c = 1 ∨ c = 2) ∧ (d = 1 ∨ d = 2) ∧ (e = 1 ∨ e = 2) := by
  have hv : idsB [1, 2, 3] 16 = true := by kernel_rfl
  have hg : (!idsB [1, 2, 3] 16 || !(decide ((1 : Int) ≤ 3) && decide ((3 : Int) ≤ 1000)) || (decide ((([1, 2, 3] : List Int).length : Int) = 1) && decide (([1, 2, 3] : List Int).getD 0 0 = 3))) = false := by kernel_rfl
  have hp : ∀ r, r < 5 → prvR [1, 2, 3] 3 r = 1 ∨ prvR [1, 2, 3] 3 r = 2 := fun r hr => by
    have h1 := prv_mem (x := 3) hv hr
    have h2 := prv_ne (x := 3) (y := 1) hv hr (by simp) (by simp) (by decide)
    simp only [List.mem_cons, List.not_mem_nil, or_false] at h1
    rcases h1 with h1 | h1 | h1
    · exact .inl h1
    · exact .inr h1
    · exact absurd h1 h2
  refine ⟨prvR [1, 2, 3] 3 0, prvR [1, 2, 3] 3 1, prvR [1, 2, 3] 3 2, prvR [1, 2, 3] 3 3, prvR [1, 2, 3] 3 4, ?_, hp 0 (by decide), hp 1 (by decide), hp 2 (by decide), hp 3 (by decide), hp 4 (by decide)⟩
  rw [obsR, hg, cond_false]
  rfl
theorem ck_val {o : List Int} (ho : obsR [1, 2, 3] 3 = o) (hl : o.length = 5) (hb : ∀ x ∈ o, 1 ≤ x ∧ x ≤ 1000) : valS ckW (ckS o) = true := by
  have hvw : viewB ckW = true := by kernel_rfl
  refine valS_iff.2 ⟨hvw, fun a ha => ?_, ?_⟩
  · obtain ⟨r, hr, rfl⟩ := List.mem_map.1 ha
    have hr : r < 5 := List.mem_range.1 hr
    have hrl : r < o.length := by omega
    have hm : 1 ≤ o.getD r 0 ∧ o.getD r 0 ≤ 1000 := by
      have : o.getD r 0 = o[r] := by simp [hrl]
      rw [this]
      exact hb _ (List.getElem_mem hrl)
    have hran : ranB ⟨0, (r : Nat), o.getD r 0, 3⟩ = true := by
      simp only [ranB, Bool.and_eq_true, decide_eq_true_eq]
      omega
    unfold valA
    rw [hvw, hran]
    show (bif !true || !decide ((0 : Int) = 0) || !true then false else decide (((r : Nat) : Int) < ((obsR [1, 2, 3] 3).length : Int)) && decide ((obsR [1, 2, 3] 3).getD ((r : Nat) : Int).toNat 0 = o.getD r 0)) = true
    rw [ho, hl, Int.toNat_natCast, decide_eq_true (show ((r : Nat) : Int) < ((5 : Nat) : Int) by omega)]
    simp
  · unfold ckS srt
    rw [List.pairwise_map]
    refine (List.pairwise_lt_range (n := 5)).imp fun {a b} hab => ?_
    unfold lessB
    simp
    omega
theorem ck_sub {o : List Int} (h : valS ckW (ckS o) = true) : valS ckW ((ckS o).take 3) = true := by
  obtain ⟨h1, h2, h3⟩ := valS_iff.1 h
  exact valS_iff.2 ⟨h1, fun a ha => h2 a (List.mem_of_mem_take ha), h3.sublist (List.take_sublist ..)⟩
theorem ck_sus {o : List Int} {n : Nat} (hn : 2 ≤ n) (hn5 : n ≤ 5) (h : valS ckW ((ckS o).take n) = true) (b : Bool) (hb : decide (4 ≤ scoreR ckW ((ckS o).take n) 3) = b) : susR ckW ((ckS o).take n) b = [3] ∧ susR ckW ((ckS o).take n) (!b) = [] := by
  have hsub : ∀ a ∈ (ckS o).take n, a.subj = 3 := fun a ha => by
    obtain ⟨r, _, rfl⟩ := List.mem_map.1 (List.mem_of_mem_take ha)
    rfl
  have hc3 : cntI ((ckS o).take n) 3 = n := by
    rw [cntI_eq, List.countP_eq_length.2 (fun a ha => by simp [hsub a ha])]
    simp [ckS]
    omega
  have hcx : ∀ x, x ≠ 3 → cntI ((ckS o).take n) x = 0 := fun x hx => by
    rw [cntI_eq, List.countP_eq_zero]
    intro a ha
    simp [hsub a ha, Ne.symm hx]
  constructor
  · refine up_ext (sus_up ..) (by simp) fun x => ?_
    rw [sus_iff h, List.mem_singleton]
    constructor
    · rintro ⟨h1, _⟩
      refine Classical.byContradiction fun hx => ?_
      rw [hcx x hx] at h1
      omega
    · rintro rfl
      exact ⟨by omega, hb⟩
  · refine up_ext (sus_up ..) (by simp) fun x => ?_
    rw [sus_iff h]
    constructor
    · rintro ⟨h1, h2⟩
      by_cases hx : x = 3
      · subst hx
        rw [hb] at h2
        cases b <;> cases h2
      · rw [hcx x hx] at h1
        omega
    · intro hx
      simp at hx
theorem ck_has (o : List Int) (n r : Nat) (hn : n ≤ 5) : hasB ((ckS o).take n) 3 (r : Nat) = decide (r < n) := by
  cases hd : decide (r < n)
  · refine Bool.eq_false_iff.2 fun h => ?_
    obtain ⟨a, ha, _, hr⟩ := has_iff.1 h
    obtain ⟨j, hj, rfl⟩ := List.getElem_of_mem ha
    rw [List.length_take] at hj
    simp only [List.getElem_take, ckS, List.getElem_map, List.getElem_range] at hr
    have := of_decide_eq_false hd
    omega
  · have h := of_decide_eq_true hd
    have hl : r < ((ckS o).take n).length := by
      simp [ckS]
      omega
    refine has_iff.2 ⟨((ckS o).take n)[r], List.getElem_mem hl, ?_, ?_⟩ <;> simp [ckS]
theorem ck_score3 {a b c d e : Int} (ho : obsR [1, 2, 3] 3 = [a, b, c, d, e]) (hd : d = 1 ∨ d = 2) (he : e = 1 ∨ e = 2) : decide (4 ≤ scoreR ckW ((ckS [a, b, c, d, e]).take 3) 3) = false := by
  have hsub : ∀ q ∈ (ckS [a, b, c, d, e]).take 3, q.subj = 3 := fun q hq => by
    obtain ⟨r, _, rfl⟩ := List.mem_map.1 (List.mem_of_mem_take hq)
    rfl
  have hcx : ∀ x, x ≠ 3 → cntI ((ckS [a, b, c, d, e]).take 3) x = 0 := fun x hx => by
    rw [cntI_eq, List.countP_eq_zero]
    intro q hq
    simp [hsub q hq, Ne.symm hx]
  have c1 := hcx d (by omega)
  have c2 := hcx e (by omega)
  have hh := fun r => ck_has [a, b, c, d, e] 3 r (by decide)
  unfold scoreR
  have e1 : obsR ckW.mem 3 = [a, b, c, d, e] := ho
  rw [e1]
  have e2 : List.range 5 = [0, 1, 2, 3, 4] := by kernel_rfl
  rw [e2]
  simp only [List.countP_cons, List.countP_nil, hh]
  simp [c1, c2]
theorem ck_score5 {o : List Int} : decide (4 ≤ scoreR ckW ((ckS o).take 5) 3) = true := by
  have hh := fun r => ck_has o 5 r (by decide)
  unfold scoreR
  have e2 : List.range 5 = [0, 1, 2, 3, 4] := by kernel_rfl
  rw [e2]
  simp only [List.countP_cons, List.countP_nil, hh]
  simp
theorem ck_all : ∃ (o : List Int) (S : List Alr) (c : List Int) (tr fl : Bool) (T : List Tal) (u : List Int) (x : List Int), (o.length = 5 ∧ S = ckS o ∧ c = [3] ∧ tr = true ∧ fl = false ∧ T = [⟨3, 3, 0⟩] ∧ u = [3]) ∧
    Ret Try.prog 22 [.lst 1 (([1, 2, 3] : List Int).map intE) false, i64 3] (.lst 1 (o.map intE) false) ∧
    Ret Try.prog 13 [.agg (viewE ckW), .lst 4 (S.map alE) false] (.tup [.lst 1 (c.map intE) false, .v (.bool tr)]) ∧
    Ret Try.prog 13 [.agg (viewE ckW), .lst 4 ((S.map alE).take 3) false] (.tup [.lst 1 (x.map intE) false, .v (.bool fl)]) ∧
    Ret Try.prog 11 [.agg (viewE ckW), .lst 4 ((S.map alE).take 3) false] (.lst 3 (T.map talE) false) ∧
    Ret Try.prog 16 [.agg (viewE ckW), .lst 4 ((S.map alE).take 3) false] (.lst 1 (u.map intE) false) := by
  obtain ⟨a, b, c, d, e, ho, ha, hb, hc, hd, he⟩ := ck_obs
  have hm : ckW.mem.length ≤ 500000 := by decide
  have hv := ck_val ho rfl (fun x hx => by
    simp only [List.mem_cons, List.not_mem_nil, or_false] at hx
    omega)
  have hv3 := ck_sub hv
  have hl5 : (ckS [a, b, c, d, e]).length = 5 := by simp [ckS]
  have ht5 : (ckS [a, b, c, d, e]).take 5 = ckS [a, b, c, d, e] := List.take_of_length_le (by omega)
  have hs5 := ck_sus (o := [a, b, c, d, e]) (n := 5) (by decide) (by decide) (by rw [ht5]; exact hv) true ck_score5
  rw [ht5] at hs5
  have hs3 := ck_sus (o := [a, b, c, d, e]) (n := 3) (by decide) (by decide) hv3 false (ck_score3 ho hd he)
  have e1 := c_ref4_Observers [1, 2, 3] (by decide) 3
  have e2 := c_Propose ckW hm (ckS [a, b, c, d, e]) (by omega)
  have e3 := c_Propose ckW hm ((ckS [a, b, c, d, e]).take 3) (by simp; omega)
  have e4 := c_cut_Counts ckW (by decide) ((ckS [a, b, c, d, e]).take 3) (by simp; omega)
  have e5 := c_Unstable ckW (by decide) ((ckS [a, b, c, d, e]).take 3) (by simp; omega)
  have hp2 : proposeR ckW (ckS [a, b, c, d, e]) = ([3], true) := by
    unfold proposeR
    rw [show susR ckW (ckS [a, b, c, d, e]) false = [] from hs5.2, hs5.1, prop_ok (show (nextR ckW [3]).2 = 0 by kernel_rfl)]
    rfl
  have hp3 : proposeR ckW ((ckS [a, b, c, d, e]).take 3) = ([], false) := by
    unfold proposeR
    rw [hs3.1]
    rfl
  have hsub : setI (((ckS [a, b, c, d, e]).take 3).map (·.subj)) = [3] := by
    refine up_ext (setI_up _) (by simp) fun x => ?_
    rw [setI_mem, List.mem_singleton]
    simp [ckS, List.range_succ]
  have hct : countsR ckW ((ckS [a, b, c, d, e]).take 3) = [⟨3, 3, 0⟩] := by
    have hc3 : cntI ((ckS [a, b, c, d, e]).take 3) 3 = 3 := by
      rw [cntI_eq]
      simp [ckS, List.range_succ]
    have hsum := tal_sum hv3 (x := 3) (by omega)
    have hsc := of_decide_eq_false (ck_score3 ho hd he)
    have hexp : (talOf ckW ((ckS [a, b, c, d, e]).take 3) 3).exp = 3 := hc3
    have htal : talOf ckW ((ckS [a, b, c, d, e]).take 3) 3 = ⟨3, 3, 0⟩ := by
      have h1 : (talOf ckW ((ckS [a, b, c, d, e]).take 3) 3).subj = 3 := rfl
      generalize talOf ckW ((ckS [a, b, c, d, e]).take 3) 3 = t at *
      obtain ⟨t1, t2, t3⟩ := t
      simp only [] at *
      subst h1 hexp
      have : t3 = 0 := by omega
      subst this
      rfl
    unfold countsR
    rw [hv3, hsub]
    simp only [Bool.not_true, cond_false, List.map_cons, List.map_nil, htal]
  rw [ho] at e1
  rw [hp2] at e2
  rw [hp3] at e3
  rw [hct] at e4
  rw [hs3.1] at e5
  rw [List.map_take] at e3 e4 e5
  exact ⟨[a, b, c, d, e], ckS [a, b, c, d, e], [3], true, false, [⟨3, 3, 0⟩], [3], [], ⟨rfl, rfl, rfl, rfl, rfl, rfl, rfl⟩, e1, e2, e3, e4, e5⟩
end Go.Proofs.Ytpipaadjokdgoaa

set_option linter.unusedSimpArgs false
set_option linter.unusedVariables false
set_option maxRecDepth 100000
namespace Go.Proofs.Ytpipaadjokdgoaa
open Go.Lift
theorem ck_succ {o : List Int} {i : Nat} (h : i < 5) : (ckS o).take (i + 1) = (ckS o).take i ++ [⟨0, (i : Nat), o.getD i 0, 3⟩] := by
  have hl : i < (ckS o).length := by
    simp [ckS]
    omega
  rw [List.take_succ_eq_append_getElem hl]
  simp [ckS]
theorem c_law7_awake : Ret Try.prog 9 [] (.v (.bool true)) := by
  obtain ⟨o, S, c, tr, fl, T, u, x, ⟨ho, hS, hc, htr, hfl, hT, hu⟩, e1, e2, e3, e4, e5⟩ := ck_all
  have hsc : ∀ i, i < 5 → S.take (i + 1) = S.take i ++ [⟨0, (i : Nat), o.getD i 0, 3⟩] := fun i h => by
    rw [hS]
    exact ck_succ h
  have hSl : S.length = 5 := by rw [hS]; simp [ckS]
  have hcg : (c.map intE)[0]? = some (intE 3) := by rw [hc]; rfl
  have hTg : (T.map talE)[0]? = some (talE ⟨3, 3, 0⟩) := by rw [hT]; rfl
  have hcl : c.length = 1 := by rw [hc]; rfl
  have hTl : T.length = 1 := by rw [hT]; rfl
  have hul : u.length = 1 := by rw [hu]; rfl
  clear hS hc hT hu
  refine ret_of_body (fn := Try.f9) (c := Try.f9.body.getD .skip) hm hT (by kernel_rfl) Try.func9 (by kernel_rfl) (by kernel_rfl) (by kernel_rfl) (by kernel_rfl) ?_
  repeat' ((conv => whnf); first | refine And.intro (fun h => h) ?_ | refine dcond_t (by assumption) ?_ | refine dcond_f (by assumption) ?_ | (refine dcond_intro ?_ ?_ <;> intro h) | exact .refl | refine And.intro (by kernel_rfl) ?_ | refine And.intro ⟨fun h => h, fun h => h⟩ ?_ | refine .inl ⟨_, _, DleAll_refl _, e1, ?_⟩ | refine ⟨_, _, DleAll_refl _, fun _ => e1, ?_⟩ | refine ⟨_, _, DleAll_refl _, e1, ?_⟩ | (refine And.intro ?_ ?_; focus (simp; done)) | fail)
  all_goals (conv => whnf)
  refine ⟨Nat, fun i => ⟨[(1, .lp 1 0), (2, .lst 1 (o.map intE) false), (3, .own 2), (4, i64 i)], [.dead, .cells 24 (viewE ckW), .row 48 4 ((S.take i).map alE)]⟩, fun i => i ≤ o.length, fun i => o.length - i, [.slot 3 48 4], ⟨0, Nat.zero_le _, ?_⟩, ?_⟩
  · conv => whnf
    exact ⟨⟨.refl, .refl, .refl, .refl, trivial⟩, ⟨.refl, .refl, .refl, trivial⟩, by rfl⟩
  · intro i hi
    repeat' ((conv => whnf); first | refine And.intro (fun h => h) ?_ | refine dcond_t (by assumption) ?_ | refine dcond_f (by assumption) ?_ | (refine dcond_intro ?_ ?_ <;> intro h) | exact .refl | refine And.intro (by kernel_rfl) ?_ | refine And.intro ⟨fun h => h, fun h => h⟩ ?_ | (refine And.intro ?_ ?_; focus (simp; done)) | fail)
    · have hlt : i < o.length := by simpa using h
      clear h
      have hs := hsc i (by omega)
      have hg : o.getD i 0 = o[i] := by simp [hlt]
      repeat' ((conv => whnf); first | refine And.intro (fun h => h) ?_ | refine dcond_t (by assumption) ?_ | refine dcond_f (by assumption) ?_ | (refine dcond_intro ?_ ?_ <;> intro h) | exact .refl | refine And.intro (by kernel_rfl) ?_ | refine And.intro ⟨fun h => h, fun h => h⟩ ?_ | refine ⟨_, _, And.intro ⟨rfl, get_map hlt⟩ ?_⟩ | refine And.intro (fitsA (by simp <;> omega)) ?_ | (refine And.intro ?_ ?_; focus (simp; done)) | fail)
      all_goals (conv => whnf)
      refine ⟨i + 1, hlt, by simp only []; omega, ?_⟩
      conv => whnf
      refine ⟨⟨.refl, .refl, .refl, dle_int (wrap_succ (by omega)), trivial⟩, ⟨.refl, .refl, ole_row ?_, trivial⟩, by rfl⟩
      rw [hs, List.map_append, hg]
      rfl
    · have : i = o.length := by
        simp at h
        omega
      subst this
      rw [show S.take o.length = S from List.take_of_length_le (by omega)]
      clear h hsc
      have h3 : 3 ≤ (S.map alE).length := by
        rw [List.length_map]
        omega
      repeat' ((conv => whnf); first | refine And.intro (fun h => h) ?_ | refine dcond_t (by assumption) ?_ | refine dcond_f (by assumption) ?_ | (refine dcond_intro ?_ ?_ <;> intro h) | exact .refl | refine And.intro (by kernel_rfl) ?_ | refine And.intro ⟨fun h => h, fun h => h⟩ ?_ | refine .inl ⟨_, _, DleAll_refl _, e2, ?_⟩ | refine ⟨_, _, DleAll_refl _, fun _ => e2, ?_⟩ | refine ⟨_, _, DleAll_refl _, e2, ?_⟩ | refine .inl ⟨_, _, DleAll_refl _, e3, ?_⟩ | refine ⟨_, _, DleAll_refl _, fun _ => e3, ?_⟩ | refine ⟨_, _, DleAll_refl _, e3, ?_⟩ | refine .inl ⟨_, _, DleAll_refl _, e4, ?_⟩ | refine ⟨_, _, DleAll_refl _, fun _ => e4, ?_⟩ | refine ⟨_, _, DleAll_refl _, e4, ?_⟩ | refine .inl ⟨_, _, DleAll_refl _, e5, ?_⟩ | refine ⟨_, _, DleAll_refl _, fun _ => e5, ?_⟩ | refine ⟨_, _, DleAll_refl _, e5, ?_⟩ | refine ⟨0, 3, And.intro ⟨rfl, ⟨_, rfl⟩, Nat.zero_le _, h3⟩ ?_⟩ | refine ⟨0, intE 3, And.intro ⟨⟨fun h => h, fun h => h⟩, fun _ => ⟨rfl, hcg⟩⟩ ?_⟩ | refine ⟨0, talE ⟨3, 3, 0⟩, And.intro ⟨⟨fun h => h, fun h => h⟩, fun _ => ⟨rfl, hTg⟩⟩ ?_⟩ | refine ⟨0, intE 3, And.intro ⟨fun h => h, fun _ => ⟨rfl, hcg⟩⟩ ?_⟩ | refine ⟨0, talE ⟨3, 3, 0⟩, And.intro ⟨fun h => h, fun _ => ⟨rfl, hTg⟩⟩ ?_⟩ | (refine And.intro ?_ ?_; focus (simp; done)) | fail)
      all_goals (conv => whnf)
      refine dle_bool ?_
      simp [htr, hfl, hcl, hTl, hul]
end Go.Proofs.Ytpipaadjokdgoaa

set_option linter.unusedSimpArgs false
set_option linter.unusedVariables false
set_option maxRecDepth 100000
namespace Go.Proofs.Ytpipaadjokdgoaa
open Go.Lift
/-! CutGrows -/
theorem pairs_sub (v : View) (l m : List Nat) : ∀ x ∈ pairsR v l l.length, x ∈ pairsR v (l ++ m) (l ++ m).length := by
  intro x hx
  unfold pairsR at *
  rw [List.take_length] at *
  rw [List.flatMap_append, List.mem_append]
  exact .inl hx
theorem r8 (v : View) (hv : v.mem.length ≤ maxLen) (l m : List Nat) (hl : l.length ≤ maxLen) (hlb : ∀ x ∈ l, x ≤ 65535) (hlm : m.length ≤ maxLen) (hmb : ∀ x ∈ m, x ≤ 65535) : Ret Try.prog 8 [.agg (viewE v), .lst 1 (l.map bE16) false, .lst 1 (m.map bE16) false] (.v (.bool true)) := by
  have e0 := c_ref3_Valid v hv
  refine ret_of_body (fn := Try.f8) (c := Try.f8.body.getD .skip) hm hT (by kernel_rfl) Try.func8 (by kernel_rfl) (by kernel_rfl) (by kernel_rfl) (by kernel_rfl) ?_
  repeat' ((conv => whnf); first | refine And.intro (fun h => h) ?_ | refine dcond_t (by assumption) ?_ | refine dcond_f (by assumption) ?_ | (refine dcond_intro ?_ ?_ <;> intro h) | exact .refl | refine And.intro (by kernel_rfl) ?_ | refine And.intro ⟨fun h => h, fun h => h⟩ ?_ | refine .inl ⟨_, _, DleAll_refl _, c_law7_awake, ?_⟩ | refine ⟨_, _, DleAll_refl _, fun _ => c_law7_awake, ?_⟩ | refine ⟨_, _, DleAll_refl _, c_law7_awake, ?_⟩ | refine .inl ⟨_, _, DleAll_refl _, e0, ?_⟩ | refine ⟨_, _, DleAll_refl _, fun _ => e0, ?_⟩ | refine ⟨_, _, DleAll_refl _, e0, ?_⟩ | (refine And.intro ?_ ?_; focus (simp; done)) | fail)
  simp only [Bool.or_eq_false_iff, Bool.not_eq_false', decide_eq_false_iff_not, List.length_map] at h
  obtain ⟨⟨hvw, h1⟩, h2⟩ := h
  clear e0
  have e1 := c_law7_set v hv hvw l (by omega) hlb
  have e2 := c_law7_set v hv hvw (l ++ m) (by rw [List.length_append]; omega) (fun x hx => by
    rcases List.mem_append.1 hx with h | h
    · exact hlb x h
    · exact hmb x h)
  obtain ⟨vA, lA, mA⟩ := setA_ok hvw l
  obtain ⟨vB, lB, mB⟩ := setA_ok hvw (l ++ m)
  rw [List.length_append] at lB
  have hsub : ∀ a ∈ setA v l, a ∈ setA v (l ++ m) := fun a ha => (mB a).2 (pairs_sub v l m a ((mA a).1 ha))
  clear mA mB
  generalize setA v l = A at *
  generalize setA v (l ++ m) = B at *
  have e3 := c_Stable v hv A (by omega)
  have e4 := c_Stable v hv B (by omega)
  have hXl := sus_len v A true
  have hYl := sus_len v B true
  have hXY : ∀ x ∈ susR v A true, x ∈ susR v B true := fun x hx => by
    rw [sus_iff vA] at hx
    rw [sus_iff vB]
    have c1 := cnt_mono vA vB hsub x
    have c2 := score_mono vA vB hsub x
    have h2 := of_decide_eq_true hx.2
    exact ⟨by omega, decide_eq_true (by omega)⟩
  generalize susR v A true = X at *
  generalize susR v B true = Y at *
  have hx1 : l.map bE16 ++ m.map bE16 = (l ++ m).map bE16 := (List.map_append ..).symm
  have hfu : ∀ n, n ≤ 2000000 → fitsIn tt 42 n := fun n h => by
    have e : (tinfo tt 42).bytes = 2 := by kernel_rfl
    refine ⟨?_, ?_⟩
    · rw [e]; omega
    · simp only [maxLen]; omega
  repeat' ((conv => whnf); first | refine And.intro (fun h => h) ?_ | refine dcond_t (by assumption) ?_ | refine dcond_f (by assumption) ?_ | (refine dcond_intro ?_ ?_ <;> intro h) | exact .refl | refine And.intro (by kernel_rfl) ?_ | refine And.intro ⟨fun h => h, fun h => h⟩ ?_ | refine .inl ⟨_, _, DleAll_refl _, e1, ?_⟩ | refine ⟨_, _, DleAll_refl _, fun _ => e1, ?_⟩ | refine ⟨_, _, DleAll_refl _, e1, ?_⟩ | refine .inl ⟨[_, .lst 1 ((l ++ m).map bE16) false], _, ⟨.refl, dle_lst hx1, trivial⟩, e2, ?_⟩ | refine .inl ⟨_, _, DleAll_refl _, e3, ?_⟩ | refine ⟨_, _, DleAll_refl _, fun _ => e3, ?_⟩ | refine ⟨_, _, DleAll_refl _, e3, ?_⟩ | refine .inl ⟨_, _, DleAll_refl _, e4, ?_⟩ | refine ⟨_, _, DleAll_refl _, fun _ => e4, ?_⟩ | refine ⟨_, _, DleAll_refl _, e4, ?_⟩ | refine And.intro (hfu _ (by simp <;> omega)) ?_ | (refine And.intro ?_ ?_; focus (simp; done)) | fail)
  all_goals (conv => whnf)
  refine ⟨Nat, fun i => ⟨[(9, .lst 1 (X.map intE) false), (10, .lst 1 (Y.map intE) false), (11, i64 i)], []⟩, fun i => i ≤ X.length, fun i => X.length - i, [], ⟨0, Nat.zero_le _, ?_⟩, ?_⟩
  · conv => whnf
    exact ⟨⟨.refl, .refl, .refl, trivial⟩, trivial, by rfl⟩
  · intro i hi
    repeat' ((conv => whnf); first | refine And.intro (fun h => h) ?_ | refine dcond_t (by assumption) ?_ | refine dcond_f (by assumption) ?_ | (refine dcond_intro ?_ ?_ <;> intro h) | exact .refl | refine And.intro (by kernel_rfl) ?_ | refine And.intro ⟨fun h => h, fun h => h⟩ ?_ | (refine And.intro ?_ ?_; focus (simp; done)) | fail)
    · have hlt : i < X.length := by simpa using h
      clear h
      have ec := c_ref3_Contains Y (by simp only [maxLen]; omega) X[i]
      rw [in_iff.2 (hXY _ (List.getElem_mem hlt))] at ec
      repeat' ((conv => whnf); first | refine And.intro (fun h => h) ?_ | refine dcond_t (by assumption) ?_ | refine dcond_f (by assumption) ?_ | (refine dcond_intro ?_ ?_ <;> intro h) | exact .refl | refine And.intro (by kernel_rfl) ?_ | refine And.intro ⟨fun h => h, fun h => h⟩ ?_ | refine ⟨_, _, And.intro ⟨rfl, get_map hlt⟩ ?_⟩ | refine .inl ⟨_, _, DleAll_refl _, ec, ?_⟩ | refine ⟨_, _, DleAll_refl _, fun _ => ec, ?_⟩ | refine ⟨_, _, DleAll_refl _, ec, ?_⟩ | (refine And.intro ?_ ?_; focus (simp; done)) | fail)
      all_goals (conv => whnf)
      refine ⟨i + 1, hlt, by simp only []; omega, ?_⟩
      conv => whnf
      exact ⟨⟨.refl, .refl, dle_int (wrap_succ (by omega)), trivial⟩, trivial, by rfl⟩
theorem law8 (dvs : List DV) (h : DatAll tt 5 [24, 37, 37] dvs) : Ret Try.prog 8 dvs (.v (.bool true)) := by
  obtain ⟨b, _, rfl, hb, a1, _, rfl, h1, a2, _, rfl, h2, rfl⟩ := h
  obtain ⟨v, rfl, hv⟩ := dat_view (n := 2) hb
  obtain ⟨l1, rfl, c1, d1⟩ := dat_u16s (n := 3) h1
  obtain ⟨l2, rfl, c2, d2⟩ := dat_u16s (n := 3) h2
  exact r8 v hv l1 l2 c1 d1 c2 d2
end Go.Proofs.Ytpipaadjokdgoaa

set_option linter.unusedSimpArgs false
set_option linter.unusedVariables false
set_option maxRecDepth 100000
namespace Go.Proofs.Ytpipaadjokdgoaa
open Go.Lift
/-! CutNoise -/
theorem ins_new {v : View} {S : List Alr} (hS : valS v S = true) {a : Alr} (ha : valA v a = true) (h0 : hasB S a.subj a.ring = false) : valS v (insR S a).1 = true ∧ (insR S a).1.length = S.length + 1 ∧ (∀ x, cntI (insR S a).1 x = cntI S x + if a.subj = x then 1 else 0) ∧ ∀ x r, hasB (insR S a).1 x r = (hasB S x r || (decide (a.subj = x) && decide (a.ring = r))) := by
  obtain ⟨hv, hA, hs⟩ := valS_iff.1 hS
  obtain ⟨g1, g2, g3, g4, g5⟩ := ins_srt hs a
  have hT := ((put_fact hs a).2 h0).1
  have hkl := insK_le S a
  refine ⟨valS_iff.2 ⟨hv, fun x hx => ?_, g1⟩, ?_, fun x => ?_, fun x r => ?_⟩
  · rcases g3 x hx with h | rfl
    · exact hA x h
    · exact ha
  · rw [hT]
    simp
    omega
  · rw [hT, cntI_eq, cntI_eq, List.countP_append, List.countP_append]
    have := congrArg (List.countP fun b => decide (b.subj = x)) (List.take_append_drop (insK S a) S)
    rw [List.countP_append] at this
    rw [← this, List.countP_cons, List.countP_nil]
    simp only [decide_eq_true_eq]
    omega
  · have hd := List.take_append_drop (insK S a) S
    have : hasB S x r = (hasB (S.take (insK S a)) x r || hasB (S.drop (insK S a)) x r) := by
      unfold hasB
      rw [← List.any_append, hd]
    rw [hT, this]
    unfold hasB
    rw [List.any_append, List.any_append]
    simp only [List.any_cons, List.any_nil, Bool.or_false]
    cases (S.take (insK S a)).any fun b => decide (b.subj = x) && decide (b.ring = r) <;> cases (S.drop (insK S a)).any fun b => decide (b.subj = x) && decide (b.ring = r) <;> cases (decide (a.subj = x) && decide (a.ring = r)) <;> rfl
theorem has_none {S : List Alr} {x : Int} (h : cntI S x = 0) (r : Int) : hasB S x r = false := by
  rw [cntI_eq, List.countP_eq_zero] at h
  refine Bool.eq_false_iff.2 fun hh => ?_
  obtain ⟨a, ha, hx, _⟩ := has_iff.1 hh
  have := h a ha
  simp [hx] at this
theorem noise_sus {v : View} {S : List Alr} (hS : valS v S = true) {a : Alr} (ha : valA v a = true) (h0 : cntI S a.subj = 0) (b : Bool) : susR v (insR S a).1 b = susR v S b := by
  obtain ⟨h1, _, h2, h3⟩ := ins_new hS ha (has_none h0 _)
  refine sus_eq h1 hS fun x => ?_
  have h2c : ∀ y, decide (2 ≤ cntI (insR S a).1 y) = decide (2 ≤ cntI S y) := fun y => by
    rw [h2 y]
    by_cases hy : a.subj = y
    · subst hy
      rw [if_pos rfl, h0]
      rfl
    · rw [if_neg hy, Nat.add_zero]
  by_cases hx : a.subj = x
  · subst hx
    rw [h2, h0, if_pos rfl]
    constructor
    · rintro ⟨h, _⟩; omega
    · rintro ⟨h, _⟩; omega
  · have hsc : scoreR v (insR S a).1 x = scoreR v S x := by
      unfold scoreR
      congr 1
      funext r
      rw [h3, h2c, decide_eq_false hx, Bool.false_and, Bool.or_false]
    rw [hsc, h2, if_neg hx, Nat.add_zero]
theorem noise_prop {v : View} {S : List Alr} (hS : valS v S = true) {a : Alr} (ha : valA v a = true) (h0 : cntI S a.subj = 0) : proposeR v (insR S a).1 = proposeR v S := by
  unfold proposeR
  rw [noise_sus hS ha h0, noise_sus hS ha h0]
theorem pair_one (v : View) (c : Nat) : pairsR v [c] [c].length = pairOf v c := by
  unfold pairsR
  simp
theorem prop_len (v : View) : ∀ (n : Nat) (l : List Int), (propF v n l).1.length ≤ l.length := fun n l => by
  cases h : (propF v n l).2
  · rw [prop_no n l h]
    exact Nat.zero_le _
  · rcases (prop_app n l h).2 with h | h
    · rw [h]
      exact Nat.le_refl _
    · omega
theorem propose_len (v : View) (S : List Alr) : (proposeR v S).1.length ≤ S.length := by
  unfold proposeR
  cases decide (0 < ((susR v S false).length : Int))
  · rw [cond_false]
    exact Nat.le_trans (prop_len v _ _) (sus_len v S true)
  · exact Nat.zero_le _
theorem r6 (v : View) (hv : v.mem.length ≤ maxLen) (l : List Nat) (hl : l.length ≤ maxLen) (hlb : ∀ x ∈ l, x ≤ 65535) (c : Nat) (hc : c ≤ 65535) : Ret Try.prog 6 [.agg (viewE v), .lst 1 (l.map bE16) false, .v (.int .u16 c)] (.v (.bool true)) := by
  have e0 := c_ref3_Valid v hv
  refine ret_of_body (fn := Try.f6) (c := Try.f6.body.getD .skip) hm hT (by kernel_rfl) Try.func6 (by kernel_rfl) (by kernel_rfl) (by kernel_rfl) (by kernel_rfl) ?_
  repeat' ((conv => whnf); first | refine And.intro (fun h => h) ?_ | refine dcond_t (by assumption) ?_ | refine dcond_f (by assumption) ?_ | (refine dcond_intro ?_ ?_ <;> intro h) | exact .refl | refine And.intro (by kernel_rfl) ?_ | refine And.intro ⟨fun h => h, fun h => h⟩ ?_ | refine .inl ⟨_, _, DleAll_refl _, c_law7_awake, ?_⟩ | refine ⟨_, _, DleAll_refl _, fun _ => c_law7_awake, ?_⟩ | refine ⟨_, _, DleAll_refl _, c_law7_awake, ?_⟩ | refine .inl ⟨_, _, DleAll_refl _, e0, ?_⟩ | refine ⟨_, _, DleAll_refl _, fun _ => e0, ?_⟩ | refine ⟨_, _, DleAll_refl _, e0, ?_⟩ | (refine And.intro ?_ ?_; focus (simp; done)) | fail)
  simp only [Bool.or_eq_false_iff, Bool.not_eq_false', decide_eq_false_iff_not, List.length_map] at h
  obtain ⟨hvw, h1⟩ := h
  clear e0
  have hv5 : v.mem.length ≤ 500000 := by have := (view_len hvw).2; omega
  have e1 := c_law7_set v hv hvw l (by omega) hlb
  have e2 := c_Pairs v hv hvw [c] (by simp) (fun x hx => by simp at hx; omega)
  have hpv := pairs_val hvw [c] [c].length
  have hpl := pairs_len (v := v) (l := [c]) [c].length (Nat.le_refl _)
  obtain ⟨vS, lS, _⟩ := setA_ok hvw l
  generalize pairsR v [c] [c].length = P at *
  generalize setA v l = S at *
  have hg : ∀ b : Bool, (!decide (((P.map alE).length : Int) = 0)) = true → (P.map alE)[0]? = some (alE (P.getD 0 alr0)) := fun b h => by
    rw [Bool.not_eq_true', decide_eq_false_iff_not, List.length_map] at h
    have : 0 < P.length := by omega
    simp [this]
  have e3 := c_ref6_Count S (by omega) (P.getD 0 alr0).subj
  repeat' ((conv => whnf); first | refine And.intro (fun h => h) ?_ | refine dcond_t (by assumption) ?_ | refine dcond_f (by assumption) ?_ | (refine dcond_intro ?_ ?_ <;> intro h) | exact .refl | refine And.intro (by kernel_rfl) ?_ | refine And.intro ⟨fun h => h, fun h => h⟩ ?_ | refine .inl ⟨_, _, DleAll_refl _, e1, ?_⟩ | refine ⟨_, _, DleAll_refl _, fun _ => e1, ?_⟩ | refine ⟨_, _, DleAll_refl _, e1, ?_⟩ | refine .inl ⟨[_, .lst 1 ([c].map bE16) false], _, ⟨.refl, .refl, trivial⟩, e2, ?_⟩ | refine ⟨[_, .lst 1 ([c].map bE16) false], _, ⟨.refl, .refl, trivial⟩, e2, ?_⟩ | refine .inl ⟨_, _, DleAll_refl _, e3, ?_⟩ | refine ⟨_, _, DleAll_refl _, fun _ => e3, ?_⟩ | refine ⟨_, _, DleAll_refl _, e3, ?_⟩ | refine ⟨0, alE (P.getD 0 alr0), And.intro ⟨⟨fun h => h, fun h => h⟩, fun h => ⟨rfl, hg true h⟩⟩ ?_⟩ | refine ⟨0, alE (P.getD 0 alr0), And.intro ⟨fun h => h, fun h => ⟨rfl, hg true h⟩⟩ ?_⟩ | (refine And.intro ?_ ?_; focus (simp; done)) | fail)
  rw [Bool.or_eq_false_iff] at h
  have hg0 := hg true (by rw [h.1]; rfl)
  have hP0 : 0 < P.length := by
    have := of_decide_eq_false h.1
    rw [List.length_map] at this
    omega
  have hc0 : cntI S (P.getD 0 alr0).subj = 0 := by
    have := of_decide_eq_false h.2
    omega
  have ha : valA v (P.getD 0 alr0) = true := by
    have : P.getD 0 alr0 = P[0] := by simp [hP0]
    rw [this]
    exact hpv _ (List.getElem_mem hP0)
  clear h hg e3 hpv
  generalize P.getD 0 alr0 = a at *
  have e4 := c_Propose v hv5 S (by omega)
  have e5 := c_ref6_Put S (valS_iff.1 vS).2.2 (by omega) a
  have hn := ins_new vS ha (has_none hc0 _)
  have e6 := c_Propose v hv5 (insR S a).1 (by omega)
  rw [noise_prop vS ha hc0] at e6
  have hpl2 := propose_len v S
  have e7 := c_law7_same (proposeR v S).1 (proposeR v S).1 (by simp only [maxLen]; omega) (by simp only [maxLen]; omega)
  rw [sameI_refl] at e7
  clear hn
  generalize (insR S a).1 = T at *
  generalize proposeR v S = R at *
  obtain ⟨R1, R2⟩ := R
  simp only [] at e4 e6 e7
  obtain ⟨tr, htr⟩ : ∃ b : Bool, b = true := ⟨true, rfl⟩
  rw [← htr] at e7
  repeat' ((conv => whnf); first | refine And.intro (fun h => h) ?_ | refine dcond_t (by assumption) ?_ | refine dcond_f (by assumption) ?_ | (refine dcond_intro ?_ ?_ <;> intro h) | exact .refl | refine And.intro (by kernel_rfl) ?_ | refine And.intro ⟨fun h => h, fun h => h⟩ ?_ | refine .inl ⟨_, _, DleAll_refl _, e4, ?_⟩ | refine ⟨_, _, DleAll_refl _, fun _ => e4, ?_⟩ | refine ⟨_, _, DleAll_refl _, e4, ?_⟩ | refine .inl ⟨_, _, DleAll_refl _, e5, ?_⟩ | refine ⟨_, _, DleAll_refl _, fun _ => e5, ?_⟩ | refine ⟨_, _, DleAll_refl _, e5, ?_⟩ | refine .inl ⟨_, _, DleAll_refl _, e6, ?_⟩ | refine ⟨_, _, DleAll_refl _, fun _ => e6, ?_⟩ | refine ⟨_, _, DleAll_refl _, e6, ?_⟩ | refine .inl ⟨_, _, DleAll_refl _, e7, ?_⟩ | refine ⟨_, _, DleAll_refl _, fun _ => e7, ?_⟩ | refine ⟨_, _, DleAll_refl _, e7, ?_⟩ | refine ⟨0, alE a, And.intro ⟨rfl, hg0⟩ ?_⟩ | (refine And.intro ?_ ?_; focus (simp; done)) | fail)
  all_goals (conv => whnf)
  refine dle_bool ?_
  simp [htr]
theorem law6 (dvs : List DV) (h : DatAll tt 5 [24, 37, 42] dvs) : Ret Try.prog 6 dvs (.v (.bool true)) := by
  obtain ⟨b, _, rfl, hb, a1, _, rfl, h1, _, _, rfl, ⟨s, rfl, hs⟩, rfl⟩ := h
  obtain ⟨v, rfl, hv⟩ := dat_view (n := 2) hb
  obtain ⟨l1, rfl, c1, d1⟩ := dat_u16s (n := 3) h1
  have h2 := bounds_u16 (by exact hs)
  obtain ⟨s, rfl⟩ := Int.eq_ofNat_of_zero_le (a := s) (by omega)
  exact r6 v hv l1 c1 d1 s (by omega)
end Go.Proofs.Ytpipaadjokdgoaa

set_option linter.unusedSimpArgs false
set_option linter.unusedVariables false
set_option maxRecDepth 100000
namespace Go.Proofs.Ytpipaadjokdgoaa
open Go.Lift
/-! CutHolds -/
theorem tal_lo {v : View} {S : List Alr} {t : Tal} (h : t ∈ countsR v S) (hc : ¬ 2 ≤ t.exp) : t.imp = 0 := by
  unfold countsR at h
  cases hv : !valS v S
  · rw [hv, cond_false] at h
    obtain ⟨x, _, rfl⟩ := List.mem_map.1 h
    unfold talOf at hc ⊢
    simp only [] at hc ⊢
    rw [if_neg hc]
  · rw [hv, cond_true] at h
    cases h
theorem any_sus (v : View) (S : List Alr) (b : Bool) : (countsR v S).any (susB b) = decide (0 < ((susR v S b).length : Int)) := by
  unfold susR
  rw [List.length_map]
  cases h : (countsR v S).any (susB b)
  · rw [List.any_eq_false] at h
    have : (countsR v S).filter (susB b) = [] := List.filter_eq_nil_iff.2 fun t ht => h t ht
    rw [this]
    rfl
  · obtain ⟨t, ht, hb⟩ := List.any_eq_true.1 h
    have : 0 < ((countsR v S).filter (susB b)).length := List.length_pos_iff.2 (List.ne_nil_of_mem (List.mem_filter.2 ⟨ht, hb⟩))
    exact (decide_eq_true (by omega)).symm
theorem r4 (v : View) (hv : v.mem.length ≤ maxLen) (l : List Nat) (hl : l.length ≤ maxLen) (hlb : ∀ x ∈ l, x ≤ 65535) : Ret Try.prog 4 [.agg (viewE v), .lst 1 (l.map bE16) false] (.v (.bool true)) := by
  have e0 := c_ref3_Valid v hv
  refine ret_of_body (fn := Try.f4) (c := Try.f4.body.getD .skip) hm hT (by kernel_rfl) Try.func4 (by kernel_rfl) (by kernel_rfl) (by kernel_rfl) (by kernel_rfl) ?_
  repeat' ((conv => whnf); first | refine And.intro (fun h => h) ?_ | refine dcond_t (by assumption) ?_ | refine dcond_f (by assumption) ?_ | (refine dcond_intro ?_ ?_ <;> intro h) | exact .refl | refine And.intro (by kernel_rfl) ?_ | refine And.intro ⟨fun h => h, fun h => h⟩ ?_ | refine .inl ⟨_, _, DleAll_refl _, c_law7_awake, ?_⟩ | refine ⟨_, _, DleAll_refl _, fun _ => c_law7_awake, ?_⟩ | refine ⟨_, _, DleAll_refl _, c_law7_awake, ?_⟩ | refine .inl ⟨_, _, DleAll_refl _, e0, ?_⟩ | refine ⟨_, _, DleAll_refl _, fun _ => e0, ?_⟩ | refine ⟨_, _, DleAll_refl _, e0, ?_⟩ | (refine And.intro ?_ ?_; focus (simp; done)) | fail)
  simp only [Bool.or_eq_false_iff, Bool.not_eq_false', decide_eq_false_iff_not, List.length_map] at h
  obtain ⟨hvw, h1⟩ := h
  clear e0
  have hv5 : v.mem.length ≤ 500000 := by have := (view_len hvw).2; omega
  have e1 := c_law7_set v hv hvw l (by omega) hlb
  obtain ⟨vS, lS, _⟩ := setA_ok hvw l
  generalize setA v l = S at *
  have e2 := c_cut_Counts v hv S (by omega)
  have e3 := c_Propose v hv5 S (by omega)
  obtain ⟨hb1, hb2⟩ := cnt_bnd v S
  have hlo := fun t => tal_lo (v := v) (S := S) (t := t)
  have hany := any_sus v S false
  have hsl := sus_len v S true
  have hst : susR v S true = ((countsR v S).filter (susB true)).map (·.subj) := rfl
  have hpr : proposeR v S = bif decide (0 < ((susR v S false).length : Int)) then ([], false) else propL v (susR v S true) := rfl
  rw [← hany] at hpr
  clear hany
  have hlen2 := propose_len v S
  generalize proposeR v S = R at *
  generalize susR v S true = L at *
  generalize countsR v S = T at *
  obtain ⟨R1, R2⟩ := R
  have e4 := c_ref3_Applicable v hv5 L (by omega)
  simp only [] at e3 hlen2
  have e5 := c_ref3_Applicable v hv5 R1 (by omega)
  have e6 := c_law7_same R1 L (by simp only [maxLen]; omega) (by simp only [maxLen]; omega)
  have hfI : ∀ n, n ≤ 2000000 → fitsIn tt 3 n := fun n h => by
    have e : (tinfo tt 3).bytes = 8 := by kernel_rfl
    refine ⟨?_, ?_⟩
    · rw [e]; omega
    · simp only [maxLen]; omega
  repeat' ((conv => whnf); first | refine And.intro (fun h => h) ?_ | refine dcond_t (by assumption) ?_ | refine dcond_f (by assumption) ?_ | (refine dcond_intro ?_ ?_ <;> intro h) | exact .refl | refine And.intro (by kernel_rfl) ?_ | refine And.intro ⟨fun h => h, fun h => h⟩ ?_ | refine .inl ⟨_, _, DleAll_refl _, e1, ?_⟩ | refine ⟨_, _, DleAll_refl _, fun _ => e1, ?_⟩ | refine ⟨_, _, DleAll_refl _, e1, ?_⟩ | refine .inl ⟨_, _, DleAll_refl _, e2, ?_⟩ | refine ⟨_, _, DleAll_refl _, fun _ => e2, ?_⟩ | refine ⟨_, _, DleAll_refl _, e2, ?_⟩ | (refine And.intro ?_ ?_; focus (simp; done)) | fail)
  all_goals (conv => whnf)
  refine ⟨Nat, fun i => ⟨[(2, .lp 0 0), (5, .lst 4 (S.map alE) false), (6, .lst 3 (T.map talE) false), (7, .own 1), (8, .v (.bool ((T.take i).any (susB false)))), (9, i64 i)], [.cells 24 (viewE v), .row 3 1 ((((T.take i).filter (susB true)).map (·.subj)).map intE)]⟩, fun i => i ≤ T.length, fun i => T.length - i, [.slot 7 3 1], ⟨0, Nat.zero_le _, ?_⟩, ?_⟩
  · conv => whnf
    exact ⟨⟨.refl, .refl, .refl, .refl, .refl, .refl, trivial⟩, ⟨.refl, .refl, trivial⟩, by rfl⟩
  · intro i hi
    repeat' ((conv => whnf); first | refine And.intro (fun h => h) ?_ | refine dcond_t (by assumption) ?_ | refine dcond_f (by assumption) ?_ | (refine dcond_intro ?_ ?_ <;> intro h) | exact .refl | refine And.intro (by kernel_rfl) ?_ | refine And.intro ⟨fun h => h, fun h => h⟩ ?_ | (refine And.intro ?_ ?_; focus (simp; done)) | fail)
    · have hlt : i < T.length := by simpa using h
      clear h
      obtain ⟨hx1, hx2⟩ := hb2 T[i] (List.getElem_mem hlt)
      have hlo := hlo T[i] (List.getElem_mem hlt)
      have hflt : ((T.take i).filter (susB true)).length ≤ i := Nat.le_trans (List.length_filter_le ..) (by simp; omega)
      have hs1 : ((T.take (i + 1)).filter (susB true)).map (·.subj) = ((T.take i).filter (susB true)).map (·.subj) ++ bif susB true T[i] then [T[i].subj] else [] := by
        rw [List.take_succ_eq_append_getElem hlt, List.filter_append, List.map_append]
        cases hb : susB true T[i] <;> simp [hb]
      have hs2 : (T.take (i + 1)).any (susB false) = ((T.take i).any (susB false) || susB false T[i]) := by
        rw [List.take_succ_eq_append_getElem hlt, List.any_append]
        simp
      have hlN : (((T.take i).filter (susB true)).map (·.subj)).length ≤ i := by rw [List.length_map]; exact hflt
      generalize ((T.take i).filter (susB true)).map (·.subj) = N0 at *
      generalize (T.take i).any (susB false) = B0 at *
      have hw : IntKind.i64.wrap ((T[i].exp : Int) + (T[i].imp : Int)) = ((T[i].exp + T[i].imp : Nat) : Int) := by
        rw [wrap_i64 (by omega) (by omega)]
        omega
      repeat' ((conv => whnf); first | refine And.intro (fun h => h) ?_ | refine dcond_t (by assumption) ?_ | refine dcond_f (by assumption) ?_ | (refine dcond_intro ?_ ?_ <;> intro h) | exact .refl | refine And.intro (by kernel_rfl) ?_ | refine And.intro ⟨fun h => h, fun h => h⟩ ?_ | refine ⟨_, _, And.intro ⟨rfl, get_map hlt⟩ ?_⟩ | refine And.intro (hfI _ (by simp <;> omega)) ?_ | (refine And.intro ?_ ?_; focus (simp; done)) | fail)
      all_goals (conv => whnf)
      · exfalso
        rename_i h0
        have h0 := of_decide_eq_true h0
        have := hlo (by omega)
        rw [this] at h
        simp at h
      · rename_i h0
        have h0 := of_decide_eq_true h0
        have hn : ¬ 2 ≤ T[i].exp := by omega
        have hb : ∀ b, susB b T[i] = false := fun b => by
          unfold susB
          rw [decide_eq_false hn, Bool.false_and]
        rw [hb, cond_false, List.append_nil] at hs1
        rw [hb, Bool.or_false] at hs2
        refine ⟨i + 1, hlt, by simp only []; omega, ?_⟩
        conv => whnf
        refine ⟨⟨.refl, .refl, .refl, .refl, dle_bool hs2.symm, dle_int (wrap_succ (by omega)), trivial⟩, ⟨.refl, ole_row ?_, trivial⟩, by rfl⟩
        rw [hs1]
      · rename_i h0
        have h0 := of_decide_eq_false h0
        have h := of_decide_eq_true h
        rw [hw] at h
        have hb1 : susB true T[i] = true := by
          unfold susB
          rw [decide_eq_true (show 2 ≤ T[i].exp by omega), decide_eq_true (show 4 ≤ T[i].exp + T[i].imp by omega)]
          rfl
        have hb2 : susB false T[i] = false := by
          unfold susB
          rw [decide_eq_true (show 4 ≤ T[i].exp + T[i].imp by omega)]
          simp
        rw [hb1, cond_true] at hs1
        rw [hb2, Bool.or_false] at hs2
        refine ⟨i + 1, hlt, by simp only []; omega, ?_⟩
        conv => whnf
        refine ⟨⟨.refl, .refl, .refl, .refl, dle_bool hs2.symm, dle_int (wrap_succ (by omega)), trivial⟩, ⟨.refl, ole_row ?_, trivial⟩, by rfl⟩
        rw [hs1, List.map_append]
        rfl
      · rename_i h0
        have h0 := of_decide_eq_false h0
        have h := of_decide_eq_false h
        rw [hw] at h
        have hb1 : susB true T[i] = false := by
          unfold susB
          rw [decide_eq_false (show ¬ 4 ≤ T[i].exp + T[i].imp by omega)]
          simp
        have hb2 : susB false T[i] = true := by
          unfold susB
          rw [decide_eq_true (show 2 ≤ T[i].exp by omega), decide_eq_false (show ¬ 4 ≤ T[i].exp + T[i].imp by omega)]
          rfl
        rw [hb1, cond_false, List.append_nil] at hs1
        rw [hb2, Bool.or_true] at hs2
        refine ⟨i + 1, hlt, by simp only []; omega, ?_⟩
        conv => whnf
        refine ⟨⟨.refl, .refl, .refl, .refl, dle_bool hs2.symm, dle_int (wrap_succ (by omega)), trivial⟩, ⟨.refl, ole_row ?_, trivial⟩, by rfl⟩
        rw [hs1]
    · have : i = T.length := by
        simp at h
        omega
      subst this
      clear h
      rw [List.take_length, ← hst]
      generalize T.any (susB false) = bt at *
      clear hst hlo hb1 hb2
      repeat' ((conv => whnf); first | refine And.intro (fun h => h) ?_ | refine dcond_t (by assumption) ?_ | refine dcond_f (by assumption) ?_ | (refine dcond_intro ?_ ?_ <;> intro h) | exact .refl | refine And.intro (by kernel_rfl) ?_ | refine And.intro ⟨fun h => h, fun h => h⟩ ?_ | refine .inl ⟨_, _, DleAll_refl _, e3, ?_⟩ | refine ⟨_, _, DleAll_refl _, fun _ => e3, ?_⟩ | refine ⟨_, _, DleAll_refl _, e3, ?_⟩ | refine .inl ⟨_, _, DleAll_refl _, e4, ?_⟩ | refine ⟨_, _, DleAll_refl _, fun _ => e4, ?_⟩ | refine ⟨_, _, DleAll_refl _, e4, ?_⟩ | refine .inl ⟨_, _, DleAll_refl _, e5, ?_⟩ | refine ⟨_, _, DleAll_refl _, fun _ => e5, ?_⟩ | refine ⟨_, _, DleAll_refl _, e5, ?_⟩ | refine .inl ⟨_, _, DleAll_refl _, e6, ?_⟩ | refine ⟨_, _, DleAll_refl _, fun _ => e6, ?_⟩ | refine ⟨_, _, DleAll_refl _, e6, ?_⟩ | (refine And.intro ?_ ?_; focus (simp; done)) | fail)
      all_goals (conv => whnf)
      · refine dle_bool ?_
        cases bt
        · rw [Bool.false_or, List.length_map] at h
          have hL : L = [] := List.length_eq_zero_iff.1 (by have := of_decide_eq_true h; omega)
          rw [cond_false, hL, prop_nil] at hpr
          cases hpr
          rfl
        · rw [cond_true] at hpr
          cases hpr
          rfl
      · rename_i h0
        rw [Bool.or_eq_false_iff] at h0
        rw [h0.1, cond_false, prop_ok (of_decide_eq_true h)] at hpr
        cases hpr
        refine dle_bool ?_
        rw [sameI_refl]
        rfl
      · rename_i h0
        rw [Bool.or_eq_false_iff] at h0
        rw [h0.1, cond_false] at hpr
        refine dle_bool ?_
        unfold propL at hpr
        have h1 := prop_app (v := v) (L.length + 1) L
        have h2 := prop_no (v := v) (L.length + 1) L
        rw [← hpr] at h1 h2
        simp only [] at h1 h2
        cases R2
        · rw [h2 rfl]
          rfl
        · obtain ⟨h3, h4⟩ := h1 rfl
          have h5 : R1.length < L.length := by
            rcases h4 with h4 | h4
            · rw [h4] at h3
              exact absurd h3 (of_decide_eq_false h)
            · exact h4
          rw [List.length_map, List.length_map, decide_eq_true h3, decide_eq_true (show (R1.length : Int) < (L.length : Int) by omega)]
          simp
theorem law4 (dvs : List DV) (h : DatAll tt 5 [24, 37] dvs) : Ret Try.prog 4 dvs (.v (.bool true)) := by
  obtain ⟨b, _, rfl, hb, a1, _, rfl, h1, rfl⟩ := h
  obtain ⟨v, rfl, hv⟩ := dat_view (n := 2) hb
  obtain ⟨l1, rfl, c1, d1⟩ := dat_u16s (n := 3) h1
  exact r4 v hv l1 c1 d1
end Go.Proofs.Ytpipaadjokdgoaa

set_option linter.unusedSimpArgs false
set_option linter.unusedVariables false
set_option maxRecDepth 100000
namespace Go.Proofs.Ytpipaadjokdgoaa
open Go.Lift
/-! CutFull -/
def gatA (Q : List Alr) : List Alr := Q.foldl (fun s a => (insR s a).1) []
theorem gatA_snoc (Q : List Alr) (a : Alr) : gatA (Q ++ [a]) = (insR (gatA Q) a).1 := by
  unfold gatA
  rw [List.foldl_append]
  rfl
theorem gatA_eq (Q : List Alr) : gatA Q = gatR Q Q.length := by
  unfold gatA gatR
  rw [List.take_length]
theorem gatA_ok {v : View} (hvw : viewB v = true) {Q : List Alr} (hQ : ∀ a ∈ Q, valA v a = true) : valS v (gatA Q) = true ∧ (gatA Q).length ≤ Q.length ∧ ∀ x, x ∈ gatA Q ↔ x ∈ Q := by
  rw [gatA_eq]
  exact gat_set7 hvw hQ
def allA (v : View) (x : Int) : List Alr := (List.range 5).map fun r => ⟨v.num, (r : Nat), (obsR v.mem x).getD r 0, x⟩
theorem one_val {v : View} (hvw : viewB v = true) {x : Int} (h5 : (obsR v.mem x).length = 5) {r : Nat} (hr : r < 5) : valA v ⟨v.num, (r : Nat), (obsR v.mem x).getD r 0, x⟩ = true := by
  obtain ⟨hv, hx1, hx2, ho⟩ := obs_five h5
  have hg : (obsR v.mem x).getD r 0 = prvR v.mem x r := by
    rw [ho]
    simp [hr]
  have hm := (ids_pw.1 hv).2.2 _ (prv_mem (x := x) hv hr)
  have hran : ranB ⟨v.num, (r : Nat), (obsR v.mem x).getD r 0, x⟩ = true := by
    simp only [ranB, Bool.and_eq_true, decide_eq_true_eq]
    rw [hg]
    omega
  unfold valA
  rw [hvw, hran]
  simp only [decide_true, Bool.not_true, Bool.or_self, cond_false, Int.toNat_natCast, Bool.and_true]
  exact decide_eq_true (by omega)
theorem allA_val {v : View} (hvw : viewB v = true) {x : Int} (h5 : (obsR v.mem x).length = 5) : ∀ a ∈ allA v x, valA v a = true := by
  intro a ha
  obtain ⟨r, hr, rfl⟩ := List.mem_map.1 ha
  exact one_val hvw h5 (List.mem_range.1 hr)
theorem allA_succ {v : View} {x : Int} {r : Nat} (h : r < 5) : (allA v x).take (r + 1) = (allA v x).take r ++ [⟨v.num, (r : Nat), (obsR v.mem x).getD r 0, x⟩] := by
  have hl : r < (allA v x).length := by
    simp [allA]
    omega
  rw [List.take_succ_eq_append_getElem hl]
  simp [allA]
theorem allA_len (v : View) (x : Int) : (allA v x).length = 5 := by simp [allA]
def fulQ (v : View) (P : List Alr) (i : Nat) : List Alr := (P.take i).flatMap fun a => allA v a.subj
theorem ful_succ {v : View} {P : List Alr} {i : Nat} (h : i < P.length) : fulQ v P (i + 1) = fulQ v P i ++ allA v P[i].subj := by
  unfold fulQ
  rw [List.take_succ_eq_append_getElem h, List.flatMap_append]
  simp
theorem ful_len (v : View) (P : List Alr) : ∀ i, i ≤ P.length → (fulQ v P i).length = 5 * i
  | 0, _ => by simp [fulQ]
  | i + 1, h => by
    rw [ful_succ (by omega), List.length_append, ful_len v P i (by omega), allA_len]
    omega
theorem ful_val {v : View} (hvw : viewB v = true) {P : List Alr} (hP : ∀ a ∈ P, valA v a = true) (i : Nat) : ∀ a ∈ fulQ v P i, valA v a = true := by
  intro a ha
  obtain ⟨p, hp, ha⟩ := List.mem_flatMap.1 ha
  exact allA_val hvw (val_obs7 (hP p (List.mem_of_mem_take hp))).2.2.2.2.2.1 a ha
theorem want_in {L : List Int} {x : Int} (h : inB (setI L) x = true) : setI (L ++ [x]) = setI L := by
  refine up_ext (setI_up _) (setI_up _) fun y => ?_
  rw [setI_mem, setI_mem, List.mem_append, List.mem_singleton]
  refine ⟨fun h' => h'.elim id fun e => ?_, .inl⟩
  subst e
  exact setI_mem.1 (in_iff.1 h)
theorem want_new {L : List Int} {x : Int} (h : inB (setI L) x = false) : setI (L ++ [x]) = insL (setI L) x := by
  have hn : x ∉ setI L := fun hx => by
    rw [in_iff.2 hx] at h
    cases h
  rw [insL_eq]
  refine up_ext (setI_up _) (insW_pw (setI_up L) hn) fun y => ?_
  rw [setI_mem, List.mem_append, List.mem_singleton, (insW_perm _ _).mem_iff, List.mem_cons, setI_mem]
  exact or_comm
theorem ful_has {v : View} {P : List Alr} {S : List Alr} (hS : ∀ x, x ∈ S ↔ x ∈ fulQ v P P.length) (x : Int) {r : Nat} (hr : r < 5) : hasB S x (r : Nat) = decide (x ∈ P.map (·.subj)) := by
  cases hd : decide (x ∈ P.map (·.subj))
  · refine Bool.eq_false_iff.2 fun h => ?_
    obtain ⟨a, ha, hx, _⟩ := has_iff.1 h
    rw [hS] at ha
    unfold fulQ at ha
    rw [List.take_length] at ha
    obtain ⟨p, hp, ha⟩ := List.mem_flatMap.1 ha
    obtain ⟨q, _, rfl⟩ := List.mem_map.1 ha
    exact of_decide_eq_false hd (List.mem_map.2 ⟨p, hp, hx⟩)
  · obtain ⟨p, hp, hx⟩ := List.mem_map.1 (of_decide_eq_true hd)
    refine has_iff.2 ⟨⟨v.num, (r : Nat), (obsR v.mem x).getD r 0, x⟩, (hS _).2 ?_, rfl, rfl⟩
    unfold fulQ
    rw [List.take_length]
    refine List.mem_flatMap.2 ⟨p, hp, List.mem_map.2 ⟨r, List.mem_range.2 hr, ?_⟩⟩
    rw [hx]
theorem ful_sus {v : View} (hvw : viewB v = true) {P : List Alr} (hP : ∀ a ∈ P, valA v a = true) : susR v (gatA (fulQ v P P.length)) true = setI (P.map (·.subj)) ∧ susR v (gatA (fulQ v P P.length)) false = [] := by
  obtain ⟨vS, _, mS⟩ := gatA_ok hvw (ful_val hvw hP P.length)
  generalize gatA (fulQ v P P.length) = S at *
  have hh : ∀ x r, r < 5 → hasB S x (r : Nat) = decide (x ∈ P.map (·.subj)) := fun x r hr => ful_has mS x hr
  have hc : ∀ x, cntI S x = if x ∈ P.map (·.subj) then 5 else 0 := fun x => by
    have e2 : List.range 5 = [0, 1, 2, 3, 4] := by kernel_rfl
    rw [cnt_rings vS, e2]
    simp only [List.countP_cons, List.countP_nil, hh x 0 (by decide), hh x 1 (by decide), hh x 2 (by decide), hh x 3 (by decide), hh x 4 (by decide), decide_eq_true_eq]
    by_cases hx : x ∈ P.map (·.subj) <;> simp only [hx, if_true, if_false]
  have hsc : ∀ x, x ∈ P.map (·.subj) → 4 ≤ scoreR v S x := fun x hx => by
    have h1 := cnt_rings vS x
    rw [hc, if_pos hx] at h1
    have h2 : (List.range 5).countP (fun r => hasB S x (r : Nat)) ≤ scoreR v S x := by
      unfold scoreR
      exact List.countP_mono_left fun r _ hr => by rw [hr]; rfl
    omega
  have key : ∀ x b, (2 ≤ cntI S x ∧ decide (4 ≤ scoreR v S x) = b) ↔ (x ∈ P.map (·.subj) ∧ b = true) := fun x b => by
    rw [hc]
    by_cases hx : x ∈ P.map (·.subj)
    · rw [if_pos hx, decide_eq_true (hsc x hx)]
      constructor
      · rintro ⟨_, h⟩
        exact ⟨hx, h.symm⟩
      · rintro ⟨_, h⟩
        exact ⟨by omega, h.symm⟩
    · rw [if_neg hx]
      constructor
      · rintro ⟨h, _⟩
        omega
      · rintro ⟨h, _⟩
        exact absurd h hx
  constructor
  · refine up_ext (sus_up ..) (setI_up _) fun x => ?_
    rw [sus_iff vS, key, setI_mem]
    simp
  · refine up_ext (sus_up ..) (by simp) fun x => ?_
    rw [sus_iff vS, key]
    simp
theorem r7 (v : View) (hv : v.mem.length ≤ maxLen) (l : List Nat) (hl : l.length ≤ maxLen) (hlb : ∀ x ∈ l, x ≤ 65535) : Ret Try.prog 7 [.agg (viewE v), .lst 1 (l.map bE16) false] (.v (.bool true)) := by
  have e0 := c_ref3_Valid v hv
  refine ret_of_body (fn := Try.f7) (c := Try.f7.body.getD .skip) hm hT (by kernel_rfl) Try.func7 (by kernel_rfl) (by kernel_rfl) (by kernel_rfl) (by kernel_rfl) ?_
  repeat' ((conv => whnf); first | refine And.intro (fun h => h) ?_ | refine dcond_t (by assumption) ?_ | refine dcond_f (by assumption) ?_ | (refine dcond_intro ?_ ?_ <;> intro h) | exact .refl | refine And.intro (by kernel_rfl) ?_ | refine And.intro ⟨fun h => h, fun h => h⟩ ?_ | refine .inl ⟨_, _, DleAll_refl _, c_law7_awake, ?_⟩ | refine ⟨_, _, DleAll_refl _, fun _ => c_law7_awake, ?_⟩ | refine ⟨_, _, DleAll_refl _, c_law7_awake, ?_⟩ | refine .inl ⟨_, _, DleAll_refl _, e0, ?_⟩ | refine ⟨_, _, DleAll_refl _, fun _ => e0, ?_⟩ | refine ⟨_, _, DleAll_refl _, e0, ?_⟩ | (refine And.intro ?_ ?_; focus (simp; done)) | fail)
  simp only [Bool.or_eq_false_iff, Bool.not_eq_false', decide_eq_false_iff_not, List.length_map] at h
  obtain ⟨hvw, h1⟩ := h
  clear e0
  have hv5 : v.mem.length ≤ 500000 := by have := (view_len hvw).2; omega
  have e1 := c_Pairs v hv hvw l (by omega) hlb
  have hpl := pairs_len (v := v) (l := l) l.length (Nat.le_refl _)
  have hpv := pairs_val hvw l l.length
  generalize pairsR v l l.length = P at *
  repeat' ((conv => whnf); first | refine And.intro (fun h => h) ?_ | refine dcond_t (by assumption) ?_ | refine dcond_f (by assumption) ?_ | (refine dcond_intro ?_ ?_ <;> intro h) | exact .refl | refine And.intro (by kernel_rfl) ?_ | refine And.intro ⟨fun h => h, fun h => h⟩ ?_ | refine .inl ⟨_, _, DleAll_refl _, e1, ?_⟩ | refine ⟨_, _, DleAll_refl _, fun _ => e1, ?_⟩ | refine ⟨_, _, DleAll_refl _, e1, ?_⟩ | (refine And.intro ?_ ?_; focus (simp; done)) | fail)
  all_goals (conv => whnf)
  refine ⟨Nat, fun i => ⟨[(2, .lp 0 0), (5, .lst 4 (P.map alE) false), (6, .lst 1 ((setI ((P.take i).map (·.subj))).map intE) false), (7, .lst 4 ((gatA (fulQ v P i)).map alE) false), (8, i64 i)], [.cells 24 (viewE v)]⟩, fun i => i ≤ P.length, fun i => P.length - i, [], ⟨0, Nat.zero_le _, ?_⟩, ?_⟩
  · conv => whnf
    have e6 : setI ((P.take 0).map (·.subj)) = [] := up_ext (setI_up _) (by simp) (fun x => by rw [setI_mem]; simp)
    refine ⟨⟨.refl, .refl, ?_, .nl, .refl, trivial⟩, ⟨.refl, trivial⟩, by rfl⟩
    show dle .nl (.lst 1 ((setI ((P.take 0).map (·.subj))).map intE) false)
    rw [e6]
    exact .nl
  · intro i hi
    have hwl := setI_len ((P.take i).map (·.subj))
    rw [List.length_map, List.length_take] at hwl
    have hfl := ful_len v P i hi
    repeat' ((conv => whnf); first | refine And.intro (fun h => h) ?_ | refine dcond_t (by assumption) ?_ | refine dcond_f (by assumption) ?_ | (refine dcond_intro ?_ ?_ <;> intro h) | exact .refl | refine And.intro (by kernel_rfl) ?_ | refine And.intro ⟨fun h => h, fun h => h⟩ ?_ | (refine And.intro ?_ ?_; focus (simp; done)) | fail)
    · have hlt : i < P.length := by simpa using h
      clear h
      have h5 := (val_obs7 (hpv P[i] (List.getElem_mem hlt))).2.2.2.2.2.1
      have ec := c_ref3_Contains (setI ((P.take i).map (·.subj))) (by simp only [maxLen]; omega) P[i].subj
      have ei := c_ref3_Insert (setI ((P.take i).map (·.subj))) (by omega) P[i].subj
      have eo := c_ref4_Observers v.mem hv P[i].subj
      have hw1 : inB (setI ((P.take i).map (·.subj))) P[i].subj = true → setI ((P.take (i + 1)).map (·.subj)) = setI ((P.take i).map (·.subj)) := fun h => by
        rw [List.take_succ_eq_append_getElem hlt, List.map_append]
        exact want_in h
      have hw2 : inB (setI ((P.take i).map (·.subj))) P[i].subj = false → setI ((P.take (i + 1)).map (·.subj)) = insL (setI ((P.take i).map (·.subj))) P[i].subj := fun h => by
        rw [List.take_succ_eq_append_getElem hlt, List.map_append]
        exact want_new h
      have hfs := ful_succ (v := v) hlt
      have hso : ∀ r, r < 5 → (allA v P[i].subj).take (r + 1) = (allA v P[i].subj).take r ++ [⟨v.num, (r : Nat), (obsR v.mem P[i].subj).getD r 0, P[i].subj⟩] := fun r hr => allA_succ hr
      have hqv : ∀ r, ∀ a ∈ fulQ v P i ++ (allA v P[i].subj).take r, valA v a = true := fun r a ha => by
        rcases List.mem_append.1 ha with h | h
        · exact ful_val hvw hpv i a h
        · exact allA_val hvw h5 a (List.mem_of_mem_take h)
      have hal : (allA v P[i].subj).take 5 = allA v P[i].subj := List.take_of_length_le (by rw [allA_len]; exact Nat.le_refl _)
      generalize obsR v.mem P[i].subj = O at *
      generalize inB (setI ((P.take i).map (·.subj))) P[i].subj = ib at *
      generalize insL (setI ((P.take i).map (·.subj))) P[i].subj = W' at *
      generalize hW1 : setI ((P.take (i + 1)).map (·.subj)) = W1 at *
      generalize setI ((P.take i).map (·.subj)) = W0 at *
      generalize allA v P[i].subj = AL at *
      generalize fulQ v P i = Q at *
      repeat' ((conv => whnf); first | refine And.intro (fun h => h) ?_ | refine dcond_t (by assumption) ?_ | refine dcond_f (by assumption) ?_ | (refine dcond_intro ?_ ?_ <;> intro h) | exact .refl | refine And.intro (by kernel_rfl) ?_ | refine And.intro ⟨fun h => h, fun h => h⟩ ?_ | refine ⟨_, _, And.intro ⟨rfl, get_map hlt⟩ ?_⟩ | refine .inl ⟨_, _, DleAll_refl _, ec, ?_⟩ | refine ⟨_, _, DleAll_refl _, fun _ => ec, ?_⟩ | refine ⟨_, _, DleAll_refl _, ec, ?_⟩ | refine .inl ⟨_, _, DleAll_refl _, ei, ?_⟩ | refine ⟨_, _, DleAll_refl _, fun _ => ei, ?_⟩ | refine ⟨_, _, DleAll_refl _, ei, ?_⟩ | refine .inl ⟨_, _, DleAll_refl _, eo, ?_⟩ | refine ⟨_, _, DleAll_refl _, fun _ => eo, ?_⟩ | refine ⟨_, _, DleAll_refl _, eo, ?_⟩ | (refine And.intro ?_ ?_; focus (simp; done)) | fail)
      all_goals (conv => whnf)
      · refine ⟨Nat, fun r => ⟨[(2, .lp 0 0), (5, .lst 4 (P.map alE) false), (6, .lst 1 (W1.map intE) false), (7, .lst 4 ((gatA (Q ++ AL.take r)).map alE) false), (8, i64 i), (9, .lst 1 (O.map intE) false), (10, i64 r)], [.cells 24 (viewE v)]⟩, fun r => r ≤ O.length, fun r => O.length - r, [], ⟨0, Nat.zero_le _, ?_⟩, ?_⟩
        · conv => whnf
          refine ⟨⟨.refl, .refl, dle_lst (by rw [hw2 (by simpa using h)]), dle_lst (by rw [List.take_zero, List.append_nil]), .refl, .refl, .refl, trivial⟩, ⟨.refl, trivial⟩, by rfl⟩
        · clear h ec ei eo hw1 hw2
          intro r hr
          obtain ⟨vQ, lQ, _⟩ := gatA_ok hvw (hqv r)
          have hql : (Q ++ AL.take r).length ≤ 5 * i + 5 := by
            rw [List.length_append, List.length_take]
            omega
          repeat' ((conv => whnf); first | refine And.intro (fun h => h) ?_ | refine dcond_t (by assumption) ?_ | refine dcond_f (by assumption) ?_ | (refine dcond_intro ?_ ?_ <;> intro h) | exact .refl | refine And.intro (by kernel_rfl) ?_ | refine And.intro ⟨fun h => h, fun h => h⟩ ?_ | (refine And.intro ?_ ?_; focus (simp; done)) | fail)
          · have hrl : r < O.length := by simpa using h
            clear h
            have hgo : O.getD r 0 = O[r] := by simp [hrl]
            have ep := c_ref6_Put (gatA (Q ++ AL.take r)) (valS_iff.1 vQ).2.2 (by omega) ⟨v.num, (r : Nat), O[r], P[i].subj⟩
            have hgs : (insR (gatA (Q ++ AL.take r)) ⟨v.num, (r : Nat), O[r], P[i].subj⟩).1 = gatA (Q ++ AL.take (r + 1)) := by
              rw [← gatA_snoc, hso r (by omega), hgo, List.append_assoc]
            rw [hgs] at ep
            repeat' ((conv => whnf); first | refine And.intro (fun h => h) ?_ | refine dcond_t (by assumption) ?_ | refine dcond_f (by assumption) ?_ | (refine dcond_intro ?_ ?_ <;> intro h) | exact .refl | refine And.intro (by kernel_rfl) ?_ | refine And.intro ⟨fun h => h, fun h => h⟩ ?_ | refine ⟨_, _, And.intro ⟨rfl, get_map hlt⟩ ?_⟩ | refine ⟨_, _, And.intro ⟨rfl, get_map hrl⟩ ?_⟩ | refine .inl ⟨_, _, DleAll_refl _, ep, ?_⟩ | refine ⟨_, _, DleAll_refl _, fun _ => ep, ?_⟩ | refine ⟨_, _, DleAll_refl _, ep, ?_⟩ | (refine And.intro ?_ ?_; focus (simp; done)) | fail)
            all_goals (conv => whnf)
            refine ⟨r + 1, hrl, by simp only []; omega, ?_⟩
            conv => whnf
            exact ⟨⟨.refl, .refl, .refl, .refl, .refl, .refl, dle_int (wrap_succ (by omega)), trivial⟩, ⟨.refl, trivial⟩, by rfl⟩
          · have hre : r = 5 := by
              simp at h
              omega
            subst hre
            rw [hal, ← hfs]
            try (conv => whnf)
            refine ⟨i + 1, hlt, by simp only []; omega, ?_⟩
            conv => whnf
            exact ⟨⟨.refl, .refl, dle_lst (by rw [hW1]), .refl, dle_int (wrap_succ (by omega)), trivial⟩, ⟨.refl, trivial⟩, by rfl⟩
      · refine ⟨Nat, fun r => ⟨[(2, .lp 0 0), (5, .lst 4 (P.map alE) false), (6, .lst 1 (W1.map intE) false), (7, .lst 4 ((gatA (Q ++ AL.take r)).map alE) false), (8, i64 i), (9, .lst 1 (O.map intE) false), (10, i64 r)], [.cells 24 (viewE v)]⟩, fun r => r ≤ O.length, fun r => O.length - r, [], ⟨0, Nat.zero_le _, ?_⟩, ?_⟩
        · conv => whnf
          refine ⟨⟨.refl, .refl, dle_lst (by rw [hw1 (by simpa using h)]), dle_lst (by rw [List.take_zero, List.append_nil]), .refl, .refl, .refl, trivial⟩, ⟨.refl, trivial⟩, by rfl⟩
        · clear h ec ei eo hw1 hw2
          intro r hr
          obtain ⟨vQ, lQ, _⟩ := gatA_ok hvw (hqv r)
          have hql : (Q ++ AL.take r).length ≤ 5 * i + 5 := by
            rw [List.length_append, List.length_take]
            omega
          repeat' ((conv => whnf); first | refine And.intro (fun h => h) ?_ | refine dcond_t (by assumption) ?_ | refine dcond_f (by assumption) ?_ | (refine dcond_intro ?_ ?_ <;> intro h) | exact .refl | refine And.intro (by kernel_rfl) ?_ | refine And.intro ⟨fun h => h, fun h => h⟩ ?_ | (refine And.intro ?_ ?_; focus (simp; done)) | fail)
          · have hrl : r < O.length := by simpa using h
            clear h
            have hgo : O.getD r 0 = O[r] := by simp [hrl]
            have ep := c_ref6_Put (gatA (Q ++ AL.take r)) (valS_iff.1 vQ).2.2 (by omega) ⟨v.num, (r : Nat), O[r], P[i].subj⟩
            have hgs : (insR (gatA (Q ++ AL.take r)) ⟨v.num, (r : Nat), O[r], P[i].subj⟩).1 = gatA (Q ++ AL.take (r + 1)) := by
              rw [← gatA_snoc, hso r (by omega), hgo, List.append_assoc]
            rw [hgs] at ep
            repeat' ((conv => whnf); first | refine And.intro (fun h => h) ?_ | refine dcond_t (by assumption) ?_ | refine dcond_f (by assumption) ?_ | (refine dcond_intro ?_ ?_ <;> intro h) | exact .refl | refine And.intro (by kernel_rfl) ?_ | refine And.intro ⟨fun h => h, fun h => h⟩ ?_ | refine ⟨_, _, And.intro ⟨rfl, get_map hlt⟩ ?_⟩ | refine ⟨_, _, And.intro ⟨rfl, get_map hrl⟩ ?_⟩ | refine .inl ⟨_, _, DleAll_refl _, ep, ?_⟩ | refine ⟨_, _, DleAll_refl _, fun _ => ep, ?_⟩ | refine ⟨_, _, DleAll_refl _, ep, ?_⟩ | (refine And.intro ?_ ?_; focus (simp; done)) | fail)
            all_goals (conv => whnf)
            refine ⟨r + 1, hrl, by simp only []; omega, ?_⟩
            conv => whnf
            exact ⟨⟨.refl, .refl, .refl, .refl, .refl, .refl, dle_int (wrap_succ (by omega)), trivial⟩, ⟨.refl, trivial⟩, by rfl⟩
          · have hre : r = 5 := by
              simp at h
              omega
            subst hre
            rw [hal, ← hfs]
            try (conv => whnf)
            refine ⟨i + 1, hlt, by simp only []; omega, ?_⟩
            conv => whnf
            exact ⟨⟨.refl, .refl, dle_lst (by rw [hW1]), .refl, dle_int (wrap_succ (by omega)), trivial⟩, ⟨.refl, trivial⟩, by rfl⟩
    · have : i = P.length := by
        simp at h
        omega
      subst this
      clear h
      obtain ⟨vS, lS, _⟩ := gatA_ok hvw (ful_val hvw hpv P.length)
      obtain ⟨s1, s2⟩ := ful_sus hvw hpv
      have hpr : proposeR v (gatA (fulQ v P P.length)) = propL v (setI (P.map (·.subj))) := by
        unfold proposeR
        rw [s1, s2]
        rfl
      rw [List.take_length] at hwl ⊢
      generalize gatA (fulQ v P P.length) = S at *
      have e3 := c_Propose v hv5 S (by omega)
      have e8 := c_Stable v hv S (by omega)
      have e9 := c_Unstable v hv S (by omega)
      have hplen := propose_len v S
      rw [s1] at e8
      rw [s2] at e9
      generalize setI (P.map (·.subj)) = W at *
      generalize proposeR v S = R at *
      obtain ⟨R1, R2⟩ := R
      simp only [] at e3 hplen
      have e4 := c_ref3_Applicable v hv5 W (by omega)
      have e5 := c_ref3_Applicable v hv5 R1 (by omega)
      have e6 := c_law7_same R1 W (by simp only [maxLen]; omega) (by simp only [maxLen]; omega)
      have e7 := c_law7_same W W (by simp only [maxLen]; omega) (by simp only [maxLen]; omega)
      rw [sameI_refl] at e7
      obtain ⟨tr, htr⟩ : ∃ b : Bool, b = true := ⟨true, rfl⟩
      rw [← htr] at e7
      repeat' ((conv => whnf); first | refine And.intro (fun h => h) ?_ | refine dcond_t (by assumption) ?_ | refine dcond_f (by assumption) ?_ | (refine dcond_intro ?_ ?_ <;> intro h) | exact .refl | refine And.intro (by kernel_rfl) ?_ | refine And.intro ⟨fun h => h, fun h => h⟩ ?_ | refine .inl ⟨_, _, DleAll_refl _, e3, ?_⟩ | refine ⟨_, _, DleAll_refl _, fun _ => e3, ?_⟩ | refine ⟨_, _, DleAll_refl _, e3, ?_⟩ | refine .inl ⟨_, _, DleAll_refl _, e4, ?_⟩ | refine ⟨_, _, DleAll_refl _, fun _ => e4, ?_⟩ | refine ⟨_, _, DleAll_refl _, e4, ?_⟩ | refine .inl ⟨_, _, DleAll_refl _, e5, ?_⟩ | refine ⟨_, _, DleAll_refl _, fun _ => e5, ?_⟩ | refine ⟨_, _, DleAll_refl _, e5, ?_⟩ | refine .inl ⟨_, _, DleAll_refl _, e6, ?_⟩ | refine ⟨_, _, DleAll_refl _, fun _ => e6, ?_⟩ | refine ⟨_, _, DleAll_refl _, e6, ?_⟩ | refine .inl ⟨_, _, DleAll_refl _, e7, ?_⟩ | refine ⟨_, _, DleAll_refl _, fun _ => e7, ?_⟩ | refine ⟨_, _, DleAll_refl _, e7, ?_⟩ | refine .inl ⟨_, _, DleAll_refl _, e8, ?_⟩ | refine ⟨_, _, DleAll_refl _, fun _ => e8, ?_⟩ | refine ⟨_, _, DleAll_refl _, e8, ?_⟩ | refine .inl ⟨_, _, DleAll_refl _, e9, ?_⟩ | refine ⟨_, _, DleAll_refl _, fun _ => e9, ?_⟩ | refine ⟨_, _, DleAll_refl _, e9, ?_⟩ | (refine And.intro ?_ ?_; focus (simp; done)) | fail)
      all_goals (conv => whnf)
      · rw [prop_ok (of_decide_eq_true h)] at hpr
        cases hpr
        refine dle_bool ?_
        rw [sameI_refl, htr]
        rfl
      · refine dle_bool ?_
        unfold propL at hpr
        have h1 := prop_app (v := v) (W.length + 1) W
        rw [← hpr] at h1
        simp only [] at h1
        cases R2
        · rfl
        · rw [decide_eq_true (h1 rfl).1]
          rfl
theorem law7 (dvs : List DV) (h : DatAll tt 5 [24, 37] dvs) : Ret Try.prog 7 dvs (.v (.bool true)) := by
  obtain ⟨b, _, rfl, hb, a1, _, rfl, h1, rfl⟩ := h
  obtain ⟨v, rfl, hv⟩ := dat_view (n := 2) hb
  obtain ⟨l1, rfl, c1, d1⟩ := dat_u16s (n := 3) h1
  exact r7 v hv l1 c1 d1
end Go.Proofs.Ytpipaadjokdgoaa

set_option linter.unusedSimpArgs false
set_option linter.unusedVariables false
set_option maxRecDepth 100000
namespace Go.Proofs.Ytpipaadjokdgoaa
open Go.Lift
/-! CutCrash -/
def crP (v : View) (G : List Int) (x : Int) (r : Nat) : List Alr := ((List.range r).filter fun r => !inB G ((obsR v.mem x).getD r 0)).map fun r => ⟨v.num, (r : Nat), (obsR v.mem x).getD r 0, x⟩
theorem filt_one {α : Type} (p : α → Bool) (a : α) : [a].filter p = bif p a then [a] else [] := by
  cases h : p a <;> simp [h]
theorem map_bif {α β : Type} (f : α → β) (b : Bool) (a : α) : (bif b then [a] else []).map f = bif b then [f a] else [] := by
  cases b <;> rfl
theorem crP_succ (v : View) (G : List Int) (x : Int) (r : Nat) : crP v G x (r + 1) = crP v G x r ++ bif !inB G ((obsR v.mem x).getD r 0) then [⟨v.num, (r : Nat), (obsR v.mem x).getD r 0, x⟩] else [] := by
  unfold crP
  rw [List.range_succ, List.filter_append, List.map_append, filt_one, map_bif]
theorem crP_len (v : View) (G : List Int) (x : Int) (r : Nat) : (crP v G x r).length ≤ r := by
  unfold crP
  rw [List.length_map]
  exact Nat.le_trans (List.length_filter_le ..) (by simp)
theorem obs_05 (ms : List Int) (x : Int) : (obsR ms x).length = 0 ∨ (obsR ms x).length = 5 := by
  unfold obsR
  cases (!idsB ms 16 || !(decide (1 ≤ x) && decide (x ≤ 1000)) || (decide ((ms.length : Int) = 1) && decide (ms.getD 0 0 = x))) <;> simp
theorem crP_val {v : View} (hvw : viewB v = true) {G : List Int} {x : Int} {r : Nat} (hr : r ≤ (obsR v.mem x).length) : ∀ a ∈ crP v G x r, valA v a = true := by
  intro a ha
  obtain ⟨q, hq, rfl⟩ := List.mem_map.1 ha
  have hqr := List.mem_range.1 (List.mem_filter.1 hq).1
  have h5 : (obsR v.mem x).length = 5 := by
    rcases obs_05 v.mem x with h | h
    · omega
    · exact h
  exact one_val hvw h5 (by omega)
def crQ (v : View) (G : List Int) (i : Nat) : List Alr := (G.take i).flatMap fun x => crP v G x (obsR v.mem x).length
theorem crQ_succ {v : View} {G : List Int} {i : Nat} (h : i < G.length) : crQ v G (i + 1) = crQ v G i ++ crP v G G[i] (obsR v.mem G[i]).length := by
  unfold crQ
  rw [List.take_succ_eq_append_getElem h, List.flatMap_append]
  simp
theorem crQ_len (v : View) (G : List Int) : ∀ i, i ≤ G.length → (crQ v G i).length ≤ 5 * i
  | 0, _ => by simp [crQ]
  | i + 1, h => by
    have ih := crQ_len v G i (by omega)
    have h1 := crP_len v G (G[i]'(by omega)) (obsR v.mem (G[i]'(by omega))).length
    have h2 := obs_len v.mem (G[i]'(by omega))
    rw [crQ_succ (by omega), List.length_append]
    omega
theorem crQ_val {v : View} (hvw : viewB v = true) (G : List Int) (i : Nat) : ∀ a ∈ crQ v G i, valA v a = true := by
  intro a ha
  obtain ⟨x, _, ha⟩ := List.mem_flatMap.1 ha
  exact crP_val hvw (Nat.le_refl _) a ha
def enR (v : View) (G : List Int) (i : Nat) : Bool := (G.take i).all fun x => decide (2 ≤ (crP v G x (obsR v.mem x).length).length)
theorem en_succ {v : View} {G : List Int} {i : Nat} (h : i < G.length) : enR v G (i + 1) = (enR v G i && decide (2 ≤ (crP v G G[i] (obsR v.mem G[i]).length).length)) := by
  unfold enR
  rw [List.take_succ_eq_append_getElem h, List.all_append]
  simp
theorem cr_has {v : View} {G : List Int} {S : List Alr} (hS : ∀ x, x ∈ S ↔ x ∈ crQ v G G.length) (x : Int) {r : Nat} (hr : r < 5) (h5 : x ∈ G → (obsR v.mem x).length = 5) : hasB S x (r : Nat) = (decide (x ∈ G) && !inB G ((obsR v.mem x).getD r 0)) := by
  have hq : ∀ a, a ∈ S ↔ ∃ y ∈ G, a ∈ crP v G y (obsR v.mem y).length := fun a => by
    rw [hS]
    unfold crQ
    rw [List.take_length, List.mem_flatMap]
  cases hd : (decide (x ∈ G) && !inB G ((obsR v.mem x).getD r 0))
  · refine Bool.eq_false_iff.2 fun h => ?_
    obtain ⟨a, ha, hx, hrr⟩ := has_iff.1 h
    obtain ⟨y, hy, ha⟩ := (hq a).1 ha
    obtain ⟨q, hq2, rfl⟩ := List.mem_map.1 ha
    have hyx : y = x := hx
    subst hyx
    have hqr : q = r := by
      simp only [] at hrr
      omega
    subst hqr
    rw [(List.mem_filter.1 hq2).2, decide_eq_true hy] at hd
    cases hd
  · rw [Bool.and_eq_true, decide_eq_true_eq] at hd
    refine has_iff.2 ⟨⟨v.num, (r : Nat), (obsR v.mem x).getD r 0, x⟩, (hq _).2 ⟨x, hd.1, List.mem_map.2 ⟨r, List.mem_filter.2 ⟨List.mem_range.2 (by rw [h5 hd.1]; exact hr), hd.2⟩, rfl⟩⟩, rfl, rfl⟩
theorem cr_sus {v : View} (hvw : viewB v = true) {G : List Int} (hG : G.Pairwise fun x y => x < y) (hen : enR v G G.length = true) : susR v (gatA (crQ v G G.length)) true = G ∧ susR v (gatA (crQ v G G.length)) false = [] := by
  obtain ⟨vS, _, mS⟩ := gatA_ok hvw (crQ_val hvw G G.length)
  generalize gatA (crQ v G G.length) = S at *
  unfold enR at hen
  rw [List.take_length, List.all_eq_true] at hen
  have hen : ∀ x ∈ G, 2 ≤ (crP v G x (obsR v.mem x).length).length := fun x hx => of_decide_eq_true (hen x hx)
  have h5 : ∀ x ∈ G, (obsR v.mem x).length = 5 := fun x hx => by
    rcases obs_05 v.mem x with h | h
    · have h1 := hen x hx
      have h2 := crP_len v G x (obsR v.mem x).length
      omega
    · exact h
  have hh : ∀ x r, r < 5 → hasB S x (r : Nat) = (decide (x ∈ G) && !inB G ((obsR v.mem x).getD r 0)) := fun x r hr => cr_has mS x hr (h5 x)
  have hcong : ∀ (p q : Nat → Bool), (∀ r, r < 5 → p r = q r) → (List.range 5).countP p = (List.range 5).countP q := fun p q h => List.countP_congr fun r hr => by rw [h r (List.mem_range.1 hr)]
  have hc : ∀ x, x ∈ G → 2 ≤ cntI S x := fun x hx => by
    rw [cnt_rings vS, hcong _ _ (fun r hr => hh x r hr)]
    have h1 := hen x hx
    unfold crP at h1
    rw [List.length_map, h5 x hx, ← List.countP_eq_length_filter] at h1
    rw [hcong _ (fun r => !inB G ((obsR v.mem x).getD r 0)) (fun r _ => by rw [decide_eq_true hx, Bool.true_and])]
    exact h1
  have hc0 : ∀ x, x ∉ G → cntI S x = 0 := fun x hx => by
    rw [cnt_rings vS, hcong _ (fun _ => false) (fun r hr => by rw [hh x r hr, decide_eq_false hx, Bool.false_and])]
    simp
  have hsc : ∀ x, x ∈ G → scoreR v S x = 5 := fun x hx => by
    unfold scoreR
    rw [hcong _ (fun _ => true) (fun r hr => by
      rw [hh x r hr, decide_eq_true hx, Bool.true_and]
      cases hi : inB G ((obsR v.mem x).getD r 0)
      · rfl
      · rw [decide_eq_true (hc _ (in_iff.1 hi))]
        rfl)]
    rfl
  have key : ∀ x b, (2 ≤ cntI S x ∧ decide (4 ≤ scoreR v S x) = b) ↔ (x ∈ G ∧ b = true) := fun x b => by
    by_cases hx : x ∈ G
    · rw [hsc x hx]
      constructor
      · rintro ⟨_, h⟩
        exact ⟨hx, h.symm⟩
      · rintro ⟨_, h⟩
        exact ⟨hc x hx, h.symm⟩
    · rw [hc0 x hx]
      constructor
      · rintro ⟨h, _⟩
        omega
      · rintro ⟨h, _⟩
        exact absurd h hx
  constructor
  · refine up_ext (sus_up ..) hG fun x => ?_
    rw [sus_iff vS, key]
    simp
  · refine up_ext (sus_up ..) (by simp) fun x => ?_
    rw [sus_iff vS, key]
    simp
theorem r5 (v : View) (hv : v.mem.length ≤ maxLen) (c : Nat) (hc : c ≤ 65535) : Ret Try.prog 5 [.agg (viewE v), .v (.int .u16 c)] (.v (.bool true)) := by
  have e0 := c_ref3_Valid v hv
  refine ret_of_body (fn := Try.f5) (c := Try.f5.body.getD .skip) hm hT (by kernel_rfl) Try.func5 (by kernel_rfl) (by kernel_rfl) (by kernel_rfl) (by kernel_rfl) ?_
  repeat' ((conv => whnf); first | refine And.intro (fun h => h) ?_ | refine dcond_t (by assumption) ?_ | refine dcond_f (by assumption) ?_ | (refine dcond_intro ?_ ?_ <;> intro h) | exact .refl | refine And.intro (by kernel_rfl) ?_ | refine And.intro ⟨fun h => h, fun h => h⟩ ?_ | refine .inl ⟨_, _, DleAll_refl _, c_law7_awake, ?_⟩ | refine ⟨_, _, DleAll_refl _, fun _ => c_law7_awake, ?_⟩ | refine ⟨_, _, DleAll_refl _, c_law7_awake, ?_⟩ | refine .inl ⟨_, _, DleAll_refl _, e0, ?_⟩ | refine ⟨_, _, DleAll_refl _, fun _ => e0, ?_⟩ | refine ⟨_, _, DleAll_refl _, e0, ?_⟩ | (refine And.intro ?_ ?_; focus (simp; done)) | fail)
  rw [Bool.not_eq_false'] at h
  have hvw := h
  clear e0 h
  have hv5 : v.mem.length ≤ 500000 := by have := (view_len hvw).2; omega
  have h16 := view_len hvw
  have hids := ids_pw.1 (view_ids hvw)
  have hfI : ∀ n, n ≤ 2000000 → fitsIn tt 3 n := fun n h => by
    have e : (tinfo tt 3).bytes = 8 := by kernel_rfl
    refine ⟨?_, ?_⟩
    · rw [e]; omega
    · simp only [maxLen]; omega
  conv => whnf
  refine ⟨Nat × List Int, fun x => ⟨[(1, .v (.int .u16 c)), (2, .lp 0 0), (5, .own 1), (6, i64 x.1)], [.cells 24 (viewE v), .row 3 1 (x.2.map intE)]⟩, fun x => x.1 ≤ v.mem.length ∧ x.2.Sublist (v.mem.take x.1), fun x => v.mem.length - x.1, [.slot 5 3 1], ⟨⟨0, []⟩, ⟨Nat.zero_le _, by simp⟩, ?_⟩, ?_⟩
  · conv => whnf
    exact ⟨⟨.refl, .refl, .refl, .refl, trivial⟩, ⟨.refl, .refl, trivial⟩, by rfl⟩
  · intro ⟨i, G⟩ ⟨hi, hG⟩
    simp only [] at hi hG
    have hGl := hG.length_le
    rw [List.length_take] at hGl
    repeat' ((conv => whnf); first | refine And.intro (fun h => h) ?_ | refine dcond_t (by assumption) ?_ | refine dcond_f (by assumption) ?_ | (refine dcond_intro ?_ ?_ <;> intro h) | exact .refl | refine And.intro (by kernel_rfl) ?_ | refine And.intro ⟨fun h => h, fun h => h⟩ ?_ | (refine And.intro ?_ ?_; focus (simp; done)) | fail)
    · have hlt : i < v.mem.length := by simpa using h
      clear h
      have hs : v.mem.take (i + 1) = v.mem.take i ++ [v.mem[i]] := List.take_succ_eq_append_getElem hlt
      repeat' ((conv => whnf); first | refine And.intro (fun h => h) ?_ | refine dcond_t (by assumption) ?_ | refine dcond_f (by assumption) ?_ | (refine dcond_intro ?_ ?_ <;> intro h) | exact .refl | refine And.intro (by kernel_rfl) ?_ | refine And.intro ⟨fun h => h, fun h => h⟩ ?_ | refine ⟨_, _, And.intro ⟨rfl, get_map hlt⟩ ?_⟩ | refine And.intro (u64_rng _).1 ?_ | refine And.intro (by decide) ?_ | refine And.intro (hfI _ (by simp <;> omega)) ?_ | (refine And.intro ?_ ?_; focus (simp; done)) | fail)
      all_goals (conv => whnf)
      · refine ⟨⟨i + 1, G ++ [v.mem[i]]⟩, ⟨hlt, ?_⟩, by simp only []; omega, ?_⟩
        · simp only []
          rw [hs]
          exact hG.append (List.Sublist.refl _)
        · conv => whnf
          refine ⟨⟨.refl, .refl, .refl, dle_int (wrap_succ (by omega)), trivial⟩, ⟨.refl, ole_row ?_, trivial⟩, by rfl⟩
          rw [List.map_append]
          rfl
      · refine ⟨⟨i + 1, G⟩, ⟨hlt, ?_⟩, by simp only []; omega, ?_⟩
        · simp only []
          rw [hs]
          exact hG.trans (List.sublist_append_left _ _)
        · conv => whnf
          exact ⟨⟨.refl, .refl, .refl, dle_int (wrap_succ (by omega)), trivial⟩, ⟨.refl, .refl, trivial⟩, by rfl⟩
    · have : i = v.mem.length := by
        simp at h
        omega
      subst this
      clear h
      rw [List.take_length] at hG
      have hGp : G.Pairwise fun x y => x < y := hids.2.1.sublist hG
      clear hi
      conv => whnf
      refine ⟨Nat, fun i => ⟨[(2, .lp 0 0), (5, .lst 1 (G.map intE) false), (7, .lst 4 ((gatA (crQ v G i)).map alE) false), (8, .v (.bool (enR v G i))), (9, i64 i)], [.cells 24 (viewE v)]⟩, fun i => i ≤ G.length, fun i => G.length - i, [.shut 5], ⟨0, Nat.zero_le _, ?_⟩, ?_⟩
      · conv => whnf
        exact ⟨⟨.refl, .refl, .nl, .refl, .refl, trivial⟩, ⟨.refl, trivial⟩, by rfl⟩
      · intro i hi
        have hql := crQ_len v G i hi
        repeat' ((conv => whnf); first | refine And.intro (fun h => h) ?_ | refine dcond_t (by assumption) ?_ | refine dcond_f (by assumption) ?_ | (refine dcond_intro ?_ ?_ <;> intro h) | exact .refl | refine And.intro (by kernel_rfl) ?_ | refine And.intro ⟨fun h => h, fun h => h⟩ ?_ | (refine And.intro ?_ ?_; focus (simp; done)) | fail)
        · have hlt : i < G.length := by simpa using h
          clear h
          have eo := c_ref4_Observers v.mem hv G[i]
          have hol := obs_len v.mem G[i]
          have hqs := crQ_succ (v := v) hlt
          have hes := en_succ (v := v) hlt
          have hps := fun r => crP_succ v G G[i] r
          have hpl := fun r => crP_len v G G[i] r
          have hqv : ∀ r, r ≤ (obsR v.mem G[i]).length → ∀ a ∈ crQ v G i ++ crP v G G[i] r, valA v a = true := fun r hr a ha => by
            rcases List.mem_append.1 ha with h | h
            · exact crQ_val hvw G i a h
            · exact crP_val hvw hr a h
          have hp0 : crP v G G[i] 0 = [] := rfl
          generalize crP v G G[i] = CP at *
          generalize obsR v.mem G[i] = O at *
          generalize enR v G i = en at *
          repeat' ((conv => whnf); first | refine And.intro (fun h => h) ?_ | refine dcond_t (by assumption) ?_ | refine dcond_f (by assumption) ?_ | (refine dcond_intro ?_ ?_ <;> intro h) | exact .refl | refine And.intro (by kernel_rfl) ?_ | refine And.intro ⟨fun h => h, fun h => h⟩ ?_ | refine ⟨_, _, And.intro ⟨rfl, get_map hlt⟩ ?_⟩ | refine .inl ⟨_, _, DleAll_refl _, eo, ?_⟩ | refine ⟨_, _, DleAll_refl _, fun _ => eo, ?_⟩ | refine ⟨_, _, DleAll_refl _, eo, ?_⟩ | (refine And.intro ?_ ?_; focus (simp; done)) | fail)
          all_goals (conv => whnf)
          refine ⟨Nat, fun r => ⟨[(2, .lp 0 0), (5, .lst 1 (G.map intE) false), (7, .lst 4 ((gatA (crQ v G i ++ CP r)).map alE) false), (8, .v (.bool en)), (9, i64 i), (10, .lst 1 (O.map intE) false), (11, i64 (CP r).length), (12, i64 r)], [.cells 24 (viewE v)]⟩, fun r => r ≤ O.length, fun r => O.length - r, [], ⟨0, Nat.zero_le _, ?_⟩, ?_⟩
          · conv => whnf
            refine ⟨⟨.refl, .refl, dle_lst (by rw [hp0, List.append_nil]), .refl, .refl, .refl, dle_int (by rw [hp0]; rfl), .refl, trivial⟩, ⟨.refl, trivial⟩, by rfl⟩
          · intro r hr
            obtain ⟨vQ, lQ, _⟩ := gatA_ok hvw (hqv r hr)
            have hpr := hpl r
            rw [List.length_append] at lQ
            repeat' ((conv => whnf); first | refine And.intro (fun h => h) ?_ | refine dcond_t (by assumption) ?_ | refine dcond_f (by assumption) ?_ | (refine dcond_intro ?_ ?_ <;> intro h) | exact .refl | refine And.intro (by kernel_rfl) ?_ | refine And.intro ⟨fun h => h, fun h => h⟩ ?_ | (refine And.intro ?_ ?_; focus (simp; done)) | fail)
            · have hrl : r < O.length := by simpa using h
              clear h
              have hgo : O.getD r 0 = O[r] := by simp [hrl]
              have hps := hps r
              rw [hgo] at hps
              have ec := c_ref3_Contains G (by simp only [maxLen]; omega) O[r]
              have ep := c_ref6_Put (gatA (crQ v G i ++ CP r)) (valS_iff.1 vQ).2.2 (by omega) ⟨v.num, (r : Nat), O[r], G[i]⟩
              rw [← gatA_snoc, List.append_assoc] at ep
              repeat' ((conv => whnf); first | refine And.intro (fun h => h) ?_ | refine dcond_t (by assumption) ?_ | refine dcond_f (by assumption) ?_ | (refine dcond_intro ?_ ?_ <;> intro h) | exact .refl | refine And.intro (by kernel_rfl) ?_ | refine And.intro ⟨fun h => h, fun h => h⟩ ?_ | refine ⟨_, _, And.intro ⟨rfl, get_map hlt⟩ ?_⟩ | refine ⟨_, _, And.intro ⟨rfl, get_map hrl⟩ ?_⟩ | refine .inl ⟨_, _, DleAll_refl _, ec, ?_⟩ | refine ⟨_, _, DleAll_refl _, fun _ => ec, ?_⟩ | refine ⟨_, _, DleAll_refl _, ec, ?_⟩ | refine .inl ⟨_, _, DleAll_refl _, ep, ?_⟩ | refine ⟨_, _, DleAll_refl _, fun _ => ep, ?_⟩ | refine ⟨_, _, DleAll_refl _, ep, ?_⟩ | (refine And.intro ?_ ?_; focus (simp; done)) | fail)
              all_goals (conv => whnf)
              · have hb : CP (r + 1) = CP r ++ [⟨v.num, (r : Nat), O[r], G[i]⟩] := by rw [hps, h, cond_true]
                rw [← hb]
                refine ⟨r + 1, hrl, by simp only []; omega, ?_⟩
                conv => whnf
                refine ⟨⟨.refl, .refl, .refl, .refl, .refl, .refl, dle_int ?_, dle_int (wrap_succ (by omega)), trivial⟩, ⟨.refl, trivial⟩, by rfl⟩
                rw [hb, List.length_append, wrap_i64 (by omega) (by omega)]
                simp
              · have hb : CP (r + 1) = CP r := by rw [hps, h, cond_false, List.append_nil]
                refine ⟨r + 1, hrl, by simp only []; omega, ?_⟩
                conv => whnf
                refine ⟨⟨.refl, .refl, dle_lst (by rw [hb]), .refl, .refl, .refl, dle_int (by rw [hb]), dle_int (wrap_succ (by omega)), trivial⟩, ⟨.refl, trivial⟩, by rfl⟩
            · have : r = O.length := by
                simp at h
                omega
              subst this
              clear h
              rw [← hqs]
              repeat' ((conv => whnf); first | refine And.intro (fun h => h) ?_ | refine dcond_t (by assumption) ?_ | refine dcond_f (by assumption) ?_ | (refine dcond_intro ?_ ?_ <;> intro h) | exact .refl | refine And.intro (by kernel_rfl) ?_ | refine And.intro ⟨fun h => h, fun h => h⟩ ?_ | (refine And.intro ?_ ?_; focus (simp; done)) | fail)
              all_goals (conv => whnf)
              refine ⟨i + 1, hlt, by simp only []; omega, ?_⟩
              conv => whnf
              refine ⟨⟨.refl, .refl, .refl, dle_bool ?_, dle_int (wrap_succ (by omega)), trivial⟩, ⟨.refl, trivial⟩, by rfl⟩
              rw [hes]
              congr 1
              by_cases h2 : 2 ≤ (CP O.length).length
              · rw [decide_eq_true h2, decide_eq_true (by omega)]
              · rw [decide_eq_false h2, decide_eq_false (by omega)]
        · have : i = G.length := by
            simp at h
            omega
          subst this
          clear h
          have hsus := fun h => cr_sus hvw hGp (by exact h)
          obtain ⟨vS, lS, _⟩ := gatA_ok hvw (crQ_val hvw G G.length)
          have hGl := hG.length_le
          generalize gatA (crQ v G G.length) = S at *
          have e3 := c_Propose v hv5 S (by omega)
          have e4 := c_ref3_Applicable v hv5 G (by omega)
          have hpr : enR v G G.length = true → (nextR v G).2 = 0 → proposeR v S = (G, true) := fun h1 h2 => by
            obtain ⟨s1, s2⟩ := hsus h1
            unfold proposeR
            rw [s1, s2, prop_ok h2]
            rfl
          have hplen := propose_len v S
          generalize proposeR v S = R at *
          obtain ⟨R1, R2⟩ := R
          simp only [] at e3 hplen
          have e6 := c_law7_same R1 G (by simp only [maxLen]; omega) (by simp only [maxLen]; omega)
          generalize enR v G G.length = en at *
          repeat' ((conv => whnf); first | refine And.intro (fun h => h) ?_ | refine dcond_t (by assumption) ?_ | refine dcond_f (by assumption) ?_ | (refine dcond_intro ?_ ?_ <;> intro h) | exact .refl | refine And.intro (by kernel_rfl) ?_ | refine And.intro ⟨fun h => h, fun h => h⟩ ?_ | refine .inl ⟨_, _, DleAll_refl _, e3, ?_⟩ | refine ⟨_, _, DleAll_refl _, fun _ => e3, ?_⟩ | refine ⟨_, _, DleAll_refl _, e3, ?_⟩ | refine .inl ⟨_, _, DleAll_refl _, e4, ?_⟩ | refine ⟨_, _, DleAll_refl _, fun _ => e4, ?_⟩ | refine ⟨_, _, DleAll_refl _, e4, ?_⟩ | refine .inl ⟨_, _, DleAll_refl _, e6, ?_⟩ | refine ⟨_, _, DleAll_refl _, fun _ => e6, ?_⟩ | refine ⟨_, _, DleAll_refl _, e6, ?_⟩ | (refine And.intro ?_ ?_; focus (simp; done)) | fail)
          all_goals (conv => whnf)
          rw [Bool.or_eq_false_iff, Bool.not_eq_false', Bool.not_eq_false'] at h
          have := hpr h.1 (of_decide_eq_true h.2)
          cases this
          refine dle_bool ?_
          rw [sameI_refl]
          rfl
theorem law5 (dvs : List DV) (h : DatAll tt 5 [24, 42] dvs) : Ret Try.prog 5 dvs (.v (.bool true)) := by
  obtain ⟨b, _, rfl, hb, _, _, rfl, ⟨s, rfl, hs⟩, rfl⟩ := h
  obtain ⟨v, rfl, hv⟩ := dat_view (n := 2) hb
  have h2 := bounds_u16 (by exact hs)
  obtain ⟨s, rfl⟩ := Int.eq_ofNat_of_zero_le (a := s) (by omega)
  exact r5 v hv s (by omega)
end Go.Proofs.Ytpipaadjokdgoaa

set_option linter.unusedSimpArgs false
set_option linter.unusedVariables false
set_option maxRecDepth 100000
namespace Go.Proofs.Ytpipaadjokdgoaa
open Go.Lift
/-! the reference of layer 7 -/
theorem c_law6_Small (v : View) (S : List Alr) : Ret Try.prog 10 [.agg (viewE v), .lst 4 (S.map alE) false] (.v (.bool (decide ((v.mem.length : Int) ≤ 60) && decide ((S.length : Int) ≤ 150)))) := by
  refine ret_of_body (fn := Try.f10) (c := Try.f10.body.getD .skip) hm hT (by kernel_rfl) Try.func10 (by kernel_rfl) (by kernel_rfl) (by kernel_rfl) (by kernel_rfl) ?_
  repeat' ((conv => whnf); first | refine And.intro (fun h => h) ?_ | refine dcond_t (by assumption) ?_ | refine dcond_f (by assumption) ?_ | (refine dcond_intro ?_ ?_ <;> intro h) | exact .refl | refine And.intro (by kernel_rfl) ?_ | refine And.intro ⟨fun h => h, fun h => h⟩ ?_ | (refine And.intro ?_ ?_; focus (simp; done)) | fail)
  all_goals (conv => whnf)
  refine dle_bool ?_
  rw [List.length_map, List.length_map]
theorem val_ref (v : View) (a : Alr) : valA v a = bif !viewB v || !decide (a.view = v.num) || decide (a.ring < 0) || decide (a.ring ≥ 5) then false else decide (a.ring < ((obsR v.mem a.subj).length : Int)) && decide ((obsR v.mem a.subj).getD a.ring.toNat 0 = a.obs) := by
  cases hc : (!viewB v || !decide (a.view = v.num) || decide (a.ring < 0) || decide (a.ring ≥ 5))
  · rw [cond_false]
    simp only [Bool.or_eq_false_iff, Bool.not_eq_false', decide_eq_false_iff_not, decide_eq_true_eq] at hc
    obtain ⟨⟨⟨h1, h2⟩, h3⟩, h4⟩ := hc
    cases hd : (decide (a.ring < ((obsR v.mem a.subj).length : Int)) && decide ((obsR v.mem a.subj).getD a.ring.toNat 0 = a.obs))
    · unfold valA
      rw [hd]
      cases (!viewB v || !decide (a.view = v.num) || !ranB a) <;> rfl
    · have hd' := hd
      rw [Bool.and_eq_true, decide_eq_true_eq, decide_eq_true_eq] at hd
      have h5 : (obsR v.mem a.subj).length = 5 := by
        have hh : (obsR v.mem a.subj).length = 0 ∨ (obsR v.mem a.subj).length = 5 := by
          unfold obsR
          cases (!idsB v.mem 16 || !(decide (1 ≤ a.subj) && decide (a.subj ≤ 1000)) || (decide ((v.mem.length : Int) = 1) && decide (v.mem.getD 0 0 = a.subj))) <;> simp
        rcases hh with hh | hh
        · rw [hh] at hd
          omega
        · exact hh
      obtain ⟨hv, hx1, hx2, ho⟩ := obs_five h5
      have hr : a.ring.toNat < 5 := by omega
      have hg : (obsR v.mem a.subj).getD a.ring.toNat 0 = prvR v.mem a.subj a.ring.toNat := by
        rw [ho]
        simp [hr]
      have hm := (ids_pw.1 hv).2.2 _ (prv_mem (x := a.subj) hv hr)
      rw [← hg, hd.2] at hm
      have hran : ranB a = true := by
        simp only [ranB, Bool.and_eq_true, decide_eq_true_eq]
        omega
      unfold valA
      rw [hd', hran, h1, decide_eq_true h2]
      rfl
  · rw [cond_true]
    unfold valA
    cases hg : (!viewB v || !decide (a.view = v.num) || !ranB a)
    · exfalso
      simp only [Bool.or_eq_false_iff, Bool.not_eq_false', decide_eq_true_eq] at hg
      have hr := hg.2
      simp only [ranB, Bool.and_eq_true, decide_eq_true_eq] at hr
      rw [hg.1.1, decide_eq_true hg.1.2, decide_eq_false (by omega), decide_eq_false (by omega)] at hc
      cases hc
    · rfl
theorem c_ref6_ValidAlert (v : View) (hv : v.mem.length ≤ maxLen) (a : Alr) : Ret Try.prog 51 [.agg (viewE v), .agg (alE a)] (.v (.bool (valA v a))) := by
  have e1 := c_ref3_Valid v hv
  have e3 := c_ref4_Observers v.mem hv a.subj
  have hd := val_ref v a
  generalize obsR v.mem a.subj = R at e3 hd
  generalize viewB v = vb at *
  generalize valA v a = res at *
  refine ret_of_body (fn := Try.f51) (c := Try.f51.body.getD .skip) hm hT (by kernel_rfl) Try.func51 (by kernel_rfl) (by kernel_rfl) (by kernel_rfl) (by kernel_rfl) ?_
  repeat' ((conv => whnf); first | refine And.intro (fun h => h) ?_ | refine dcond_t (by assumption) ?_ | refine dcond_f (by assumption) ?_ | (refine dcond_intro ?_ ?_ <;> intro h) | exact .refl | refine And.intro (by kernel_rfl) ?_ | refine And.intro ⟨fun h => h, fun h => h⟩ ?_ | refine .inl ⟨_, _, DleAll_refl _, e1, ?_⟩ | refine ⟨_, _, DleAll_refl _, fun _ => e1, ?_⟩ | refine ⟨_, _, DleAll_refl _, e1, ?_⟩ | (refine And.intro ?_ ?_; focus (simp; done)) | fail)
  · rw [hd, h]
    exact .refl
  · have h0 : 0 ≤ a.ring := by
      simp only [Bool.or_eq_false_iff, decide_eq_false_iff_not] at h
      omega
    rw [h, cond_false] at hd
    clear h
    have hix : decide (a.ring < ((R.map intE).length : Int)) = true → a.ring = ((a.ring.toNat : Nat) : Int) ∧ (R.map intE)[a.ring.toNat]? = some (intE (R.getD a.ring.toNat 0)) := fun h => by
      have h := of_decide_eq_true h
      rw [List.length_map] at h
      have : a.ring.toNat < R.length := by omega
      refine ⟨by omega, ?_⟩
      simp [this]
    repeat' ((conv => whnf); first | refine And.intro (fun h => h) ?_ | refine dcond_t (by assumption) ?_ | refine dcond_f (by assumption) ?_ | (refine dcond_intro ?_ ?_ <;> intro h) | exact .refl | refine And.intro (by kernel_rfl) ?_ | refine And.intro ⟨fun h => h, fun h => h⟩ ?_ | refine .inl ⟨_, _, DleAll_refl _, e3, ?_⟩ | refine ⟨_, _, DleAll_refl _, fun _ => e3, ?_⟩ | refine ⟨_, _, DleAll_refl _, e3, ?_⟩ | refine ⟨a.ring.toNat, intE (R.getD a.ring.toNat 0), And.intro ⟨⟨fun h => h, fun h => h⟩, fun h => hix h⟩ ?_⟩ | refine ⟨a.ring.toNat, intE (R.getD a.ring.toNat 0), And.intro ⟨fun h => h, fun h => hix h⟩ ?_⟩ | refine ⟨a.ring.toNat, intE (R.getD a.ring.toNat 0), And.intro (fun h => hix h) ?_⟩ | (refine And.intro ?_ ?_; focus (simp; done)) | fail)
    all_goals (conv => whnf)
    refine dle_bool ?_
    rw [hd, List.length_map]
theorem c_ref6_Valid (v : View) (hv : v.mem.length ≤ maxLen) (l : List Alr) (hl : l.length ≤ maxLen) : Ret Try.prog 32 [.agg (viewE v), .lst 4 (l.map alE) false] (.v (.bool (valS v l))) := by
  have hl' : l.length ≤ 9223372036854775807 := hl
  have e1 := c_ref3_Valid v hv
  have hd : valS v l = bif !viewB v then false else allB (okS v l) l.length := rfl
  have ea := c_ref6_ValidAlert v hv
  generalize valS v l = res at *
  generalize viewB v = vb at *
  refine ret_of_body (fn := Try.f32) (c := Try.f32.body.getD .skip) hm hT (by kernel_rfl) Try.func32 (by kernel_rfl) (by kernel_rfl) (by kernel_rfl) (by kernel_rfl) ?_
  repeat' ((conv => whnf); first | refine And.intro (fun h => h) ?_ | refine dcond_t (by assumption) ?_ | refine dcond_f (by assumption) ?_ | (refine dcond_intro ?_ ?_ <;> intro h) | exact .refl | refine And.intro (by kernel_rfl) ?_ | refine And.intro ⟨fun h => h, fun h => h⟩ ?_ | refine .inl ⟨_, _, DleAll_refl _, e1, ?_⟩ | refine ⟨_, _, DleAll_refl _, fun _ => e1, ?_⟩ | refine ⟨_, _, DleAll_refl _, e1, ?_⟩ | (refine And.intro ?_ ?_; focus (simp; done)) | fail)
  all_goals (conv => whnf)
  · rw [hd, h]
    exact .refl
  · rw [h, cond_false] at hd
    clear h
    subst hd
    refine ⟨Nat, fun i => ⟨[(1, .lst 4 (l.map alE) false), (2, .lp 0 0), (5, i64 i)], [.cells 24 (viewE v)]⟩, fun i => i ≤ l.length ∧ ∀ j, j < i → okS v l j = true, fun i => l.length - i, [], ⟨0, ⟨Nat.zero_le _, by omega⟩, ?_⟩, ?_⟩
    · conv => whnf
      exact ⟨⟨.refl, .refl, .refl, trivial⟩, ⟨.refl, trivial⟩, by rfl⟩
    · intro i ⟨hi, hall⟩
      repeat' ((conv => whnf); first | refine And.intro (fun h => h) ?_ | refine dcond_t (by assumption) ?_ | refine dcond_f (by assumption) ?_ | (refine dcond_intro ?_ ?_ <;> intro h) | exact .refl | refine And.intro (by kernel_rfl) ?_ | refine And.intro ⟨fun h => h, fun h => h⟩ ?_ | (refine And.intro ?_ ?_; focus (simp; done)) | fail)
      · have hlt : i < l.length := by simpa using h
        clear h
        have hg : l.getD i alr0 = l[i] := by simp [hlt]
        have hok : okS v l i = (valA v l[i] && !(decide (0 < (i : Int)) && !lessB (l.getD (i - 1) alr0) l[i])) := by
          unfold okS
          rw [hg]
        have e4 := ea l[i]
        have e5 := c_ref6_Less (l.getD (i - 1) alr0) l[i]
        have hix : decide ((i : Int) > 0) = true → IntKind.i64.wrap ((i : Int) - 1) = ((i - 1 : Nat) : Int) ∧ (l.map alE)[i - 1]? = some (alE (l.getD (i - 1) alr0)) := fun h => by
          have h := of_decide_eq_true h
          have : i - 1 < l.length := by omega
          refine ⟨by rw [wrap_i64 (by omega) (by omega)]; omega, ?_⟩
          simp [this]
        have hix2 : ∀ c : Bool, (c && decide ((0 : Int) < (i : Int))) = true → IntKind.i64.wrap ((i : Int) - 1) = ((i - 1 : Nat) : Int) ∧ (l.map alE)[i - 1]? = some (alE (l.getD (i - 1) alr0)) := fun c h => by
          rw [Bool.and_eq_true] at h
          exact hix h.2
        generalize valA v l[i] = va at e4 hok
        generalize lessB (l.getD (i - 1) alr0) l[i] = lb at e5 hok
        generalize l.getD (i - 1) alr0 = lp at e5 hix2
        repeat' ((conv => whnf); first | refine And.intro (fun h => h) ?_ | refine dcond_t (by assumption) ?_ | refine dcond_f (by assumption) ?_ | (refine dcond_intro ?_ ?_ <;> intro h) | exact .refl | refine And.intro (by kernel_rfl) ?_ | refine And.intro ⟨fun h => h, fun h => h⟩ ?_ | refine ⟨_, _, And.intro ⟨rfl, get_map hlt⟩ ?_⟩ | refine .inl ⟨_, _, DleAll_refl _, e4, ?_⟩ | refine ⟨_, _, DleAll_refl _, fun _ => e4, ?_⟩ | refine ⟨_, _, DleAll_refl _, e4, ?_⟩ | refine ⟨i, alE (l[i]'hlt), And.intro ⟨⟨fun h => h, fun h => h⟩, fun _ => ⟨rfl, get_map hlt⟩⟩ ?_⟩ | refine ⟨i - 1, alE lp, And.intro ⟨⟨fun h => h, fun h => h⟩, fun h => hix2 _ h⟩ ?_⟩ | refine .inl ⟨_, _, DleAll_refl _, e5, ?_⟩ | refine ⟨_, _, DleAll_refl _, fun _ => e5, ?_⟩ | refine ⟨_, _, DleAll_refl _, e5, ?_⟩ | (refine And.intro ?_ ?_; focus (simp; done)) | fail)
        all_goals (conv => whnf)
        · have hb : okS v l i = !(!va || (decide ((0 : Int) < (i : Int)) && !lb)) := by
            rw [hok, Bool.not_or, Bool.not_not]
          rw [allB_false hlt (by rw [hb, h]; rfl)]
          exact .refl
        · have hb : okS v l i = !(!va || (decide ((0 : Int) < (i : Int)) && !lb)) := by
            rw [hok, Bool.not_or, Bool.not_not]
          refine ⟨i + 1, ⟨hlt, fun j hj => ?_⟩, by simp only []; omega, ?_⟩
          · rcases Nat.lt_succ_iff_lt_or_eq.1 hj with hj | rfl
            · exact hall j hj
            · rw [hb, h]
              rfl
          · conv => whnf
            exact ⟨⟨.refl, .refl, dle_int (wrap_succ (by omega)), trivial⟩, ⟨.refl, trivial⟩, by rfl⟩
      · have hge : ¬ i < l.length := by simpa using h
        conv => whnf
        refine dle_bool ?_
        rw [allB_true.2 (fun j hj => hall j (by omega))]
theorem want7_in {L : List Int} {x : Int} (h : inB (setI L) x = true) : setI (L ++ [x]) = setI L := by
  refine up_ext (setI_up _) (setI_up _) fun y => ?_
  rw [setI_mem, setI_mem, List.mem_append, List.mem_singleton]
  refine ⟨fun h' => h'.elim id fun e => ?_, .inl⟩
  subst e
  exact setI_mem.1 (in_iff.1 h)
theorem want7_new {L : List Int} {x : Int} (h : inB (setI L) x = false) : setI (L ++ [x]) = insL (setI L) x := by
  have hn : x ∉ setI L := fun hx => by
    rw [in_iff.2 hx] at h
    cases h
  rw [insL_eq]
  refine up_ext (setI_up _) (insW_pw (setI_up L) hn) fun y => ?_
  rw [setI_mem, List.mem_append, List.mem_singleton, (insW_perm _ _).mem_iff, List.mem_cons, setI_mem]
  exact or_comm
theorem setI_nil : setI [] = [] := up_ext (setI_up _) (by simp) (fun x => by rw [setI_mem])
theorem c_ref6_Subjects (S : List Alr) (hl : S.length ≤ 500000) : Ret Try.prog 33 [.lst 4 (S.map alE) false] (.lst 1 ((setI (S.map (·.subj))).map intE) false) := by
  refine ret_of_body (fn := Try.f33) (c := Try.f33.body.getD .skip) hm hT (by kernel_rfl) Try.func33 (by kernel_rfl) (by kernel_rfl) (by kernel_rfl) (by kernel_rfl) ?_
  repeat' ((conv => whnf); first | refine And.intro (fun h => h) ?_ | refine dcond_t (by assumption) ?_ | refine dcond_f (by assumption) ?_ | (refine dcond_intro ?_ ?_ <;> intro h) | exact .refl | refine And.intro (by kernel_rfl) ?_ | refine And.intro ⟨fun h => h, fun h => h⟩ ?_ | (refine And.intro ?_ ?_; focus (simp; done)) | fail)
  all_goals (conv => whnf)
  refine ⟨Nat, fun i => ⟨[(0, .lst 4 (S.map alE) false), (3, .lst 1 ((setI ((S.take i).map (·.subj))).map intE) false), (4, i64 i)], []⟩, fun i => i ≤ S.length, fun i => S.length - i, [], ⟨0, Nat.zero_le _, ?_⟩, ?_⟩
  · conv => whnf
    refine ⟨⟨.refl, ?_, .refl, trivial⟩, trivial, by rfl⟩
    show dle .nl (.lst 1 ((setI ((S.take 0).map (·.subj))).map intE) false)
    rw [List.take_zero, List.map_nil, setI_nil]
    exact .nl
  · intro i hi
    have hwl := setI_len ((S.take i).map (·.subj))
    rw [List.length_map, List.length_take] at hwl
    repeat' ((conv => whnf); first | refine And.intro (fun h => h) ?_ | refine dcond_t (by assumption) ?_ | refine dcond_f (by assumption) ?_ | (refine dcond_intro ?_ ?_ <;> intro h) | exact .refl | refine And.intro (by kernel_rfl) ?_ | refine And.intro ⟨fun h => h, fun h => h⟩ ?_ | (refine And.intro ?_ ?_; focus (simp; done)) | fail)
    · have hlt : i < S.length := by simpa using h
      clear h
      have ec := c_ref3_Contains (setI ((S.take i).map (·.subj))) (by simp only [maxLen]; omega) S[i].subj
      have ei := c_ref3_Insert (setI ((S.take i).map (·.subj))) (by omega) S[i].subj
      have hw1 : inB (setI ((S.take i).map (·.subj))) S[i].subj = true → setI ((S.take (i + 1)).map (·.subj)) = setI ((S.take i).map (·.subj)) := fun h => by
        rw [List.take_succ_eq_append_getElem hlt, List.map_append]
        exact want7_in h
      have hw2 : inB (setI ((S.take i).map (·.subj))) S[i].subj = false → setI ((S.take (i + 1)).map (·.subj)) = insL (setI ((S.take i).map (·.subj))) S[i].subj := fun h => by
        rw [List.take_succ_eq_append_getElem hlt, List.map_append]
        exact want7_new h
      generalize inB (setI ((S.take i).map (·.subj))) S[i].subj = ib at *
      repeat' ((conv => whnf); first | refine And.intro (fun h => h) ?_ | refine dcond_t (by assumption) ?_ | refine dcond_f (by assumption) ?_ | (refine dcond_intro ?_ ?_ <;> intro h) | exact .refl | refine And.intro (by kernel_rfl) ?_ | refine And.intro ⟨fun h => h, fun h => h⟩ ?_ | refine ⟨_, _, And.intro ⟨rfl, get_map hlt⟩ ?_⟩ | refine .inl ⟨_, _, DleAll_refl _, ec, ?_⟩ | refine ⟨_, _, DleAll_refl _, fun _ => ec, ?_⟩ | refine ⟨_, _, DleAll_refl _, ec, ?_⟩ | refine .inl ⟨_, _, DleAll_refl _, ei, ?_⟩ | refine ⟨_, _, DleAll_refl _, fun _ => ei, ?_⟩ | refine ⟨_, _, DleAll_refl _, ei, ?_⟩ | (refine And.intro ?_ ?_; focus (simp; done)) | fail)
      all_goals (conv => whnf)
      · refine ⟨i + 1, hlt, by simp only []; omega, ?_⟩
        conv => whnf
        exact ⟨⟨.refl, dle_lst (by rw [hw2 (by simpa using h)]), dle_int (wrap_succ (by omega)), trivial⟩, trivial, by rfl⟩
      · refine ⟨i + 1, hlt, by simp only []; omega, ?_⟩
        conv => whnf
        exact ⟨⟨.refl, dle_lst (by rw [hw1 (by simpa using h)]), dle_int (wrap_succ (by omega)), trivial⟩, trivial, by rfl⟩
    · have : i = S.length := by
        simp at h
        omega
      subst this
      rw [List.take_length]
      repeat' ((conv => whnf); first | refine And.intro (fun h => h) ?_ | refine dcond_t (by assumption) ?_ | refine dcond_f (by assumption) ?_ | (refine dcond_intro ?_ ?_ <;> intro h) | exact .refl | refine And.intro (by kernel_rfl) ?_ | refine And.intro ⟨fun h => h, fun h => h⟩ ?_ | (refine And.intro ?_ ?_; focus (simp; done)) | fail)
end Go.Proofs.Ytpipaadjokdgoaa
