/- A data-level logic for the model: what a body does to data; its soundness (part LfE). No conditions. -/
import Derived.Test.YtbaapljlalgddaaLfD
import Derived.Shelf.Sort.Plain
import Derived.Shelf.Slices.In.SortNone
import Derived.Shelf.Slices.CompactI
set_option linter.unusedSimpArgs false
set_option linter.unusedVariables false
namespace Go.Lift
open Go Go.Proofs
open Go.Sort (grow putRow putCells mapBlock Holds)
/-! # slices.Sort and slices.Compact at rows of ints -/
def iE (x : Int) : List DV := [.v (.int .i64 x)]
theorem take_put (cur : Array Value) (zs l' : List Int) (h : zs.length ≤ cur.size) (hp : zs.take l'.length = l') (hl : l'.length ≤ zs.length) : (putCells (Value.int .i64) 0 zs.toArray cur).toList.take l'.length = l'.map (Value.int .i64) := by
  apply List.ext_getElem?
  intro j
  by_cases hj : j < l'.length
  · have e : l'[j]? = zs[j]? := by
      conv => lhs; rw [← hp]
      rw [List.getElem?_take_of_lt hj]
    rw [List.getElem?_take_of_lt hj, Array.getElem?_toList, List.getElem?_map, e]
    have h1 : j < zs.length := by omega
    simp [putCells, h1, show j < cur.size by omega]
  · rw [List.getElem?_take_eq_none (by omega), List.getElem?_eq_none (by simp; omega)]
theorem ints_laid {A : Nat → Prop} {w : World} {blk cap n : Nat} {os1 : Array Obj} {e : TypeId} {l l' zs : List Int} {cur : Array Value}
    (hL : Laid A [(Value.slice (some ⟨blk, 0, none⟩) l.length cap, LObj.row e 1 (l.map iE))] [LObj.row e 1 (l.map iE)] w)
    (hheap : w.heap[blk]? = some (.cells cur e (0, 0))) (hz : zs.length = l.length) (hnc : l.length ≤ cap) (hcm : cap ≤ maxLen) (hcs : cur.size = cap * 1) (hpre : zs.take l'.length = l') (hll : l'.length ≤ l.length) :
    Laid A [(Value.slice (some ⟨blk, 0, none⟩) l'.length cap, LObj.row e 1 (l'.map iE))] [LObj.row e 1 (l'.map iE)] (grow (putRow (Value.int .i64) (Go.Sort.ahead w n) blk 0 zs.toArray) os1) ∧
    Grown (ofOs [(Value.slice (some ⟨blk, 0, none⟩) l.length cap, LObj.row e 1 (l.map iE))]) w (grow (putRow (Value.int .i64) (Go.Sort.ahead w n) blk 0 zs.toArray) os1) ∧
    ∀ b, ofOs [(Value.slice (some ⟨blk, 0, none⟩) l'.length cap, LObj.row e 1 (l'.map iE))] b → ofOs [(Value.slice (some ⟨blk, 0, none⟩) l.length cap, LObj.row e 1 (l.map iE))] b ∨ w.heap.size ≤ b := by
  have hblk : blk < w.heap.size := (Array.getElem?_eq_some_iff.1 hheap).1
  have hheap' : (grow (putRow (Value.int .i64) (Go.Sort.ahead w n) blk 0 zs.toArray) os1).heap[blk]? = some (.cells (putCells (Value.int .i64) 0 zs.toArray cur) e (0, 0)) := by
    unfold putRow mapBlock grow Go.Sort.ahead
    simp only
    rw [Array.getElem?_append_left (by simpa using hblk), Array.getElem?_modify, if_pos rfl, hheap]
    rfl
  have hWheap : ∀ b, b ≠ blk → b < w.heap.size → (grow (putRow (Value.int .i64) (Go.Sort.ahead w n) blk 0 zs.toArray) os1).heap[b]? = w.heap[b]? := fun b hne hb => by
    unfold putRow mapBlock grow Go.Sort.ahead
    simp only
    rw [Array.getElem?_append_left (by simpa using hb), Array.getElem?_modify, if_neg (Ne.symm hne)]
  have hWsize : w.heap.size ≤ (grow (putRow (Value.int .i64) (Go.Sort.ahead w n) blk 0 zs.toArray) os1).heap.size := by
    unfold putRow mapBlock grow Go.Sort.ahead
    simp
  have hofs : ∀ b, ofOs [(Value.slice (some ⟨blk, 0, none⟩) l'.length cap, LObj.row e 1 (l'.map iE))] b → b = blk := fun b ⟨i, x, o, hi, _, hb⟩ => by
    match i, hi with
    | 0, hi => simp at hi; obtain ⟨rfl, _⟩ := hi; simp [Go.Lift.blk] at hb; exact hb.symm
  have hmine : ofOs [(Value.slice (some ⟨blk, 0, none⟩) l.length cap, LObj.row e 1 (l.map iE))] blk := ⟨0, _, _, rfl, by simp, rfl⟩
  have hnA : ¬ A blk := fun h => hL.out blk h hmine
  have hpl : (putCells (Value.int .i64) 0 zs.toArray cur).size = cur.size := by simp [putCells]
  refine ⟨⟨rfl, ?_, ?_, ?_⟩, ⟨rfl, rfl, rfl, hWsize, ?_⟩, ?_⟩
  · intro i x o hi
    match i, hi with
    | 0, hi =>
      simp at hi
      obtain ⟨rfl, rfl⟩ := hi
      refine ⟨fun b _ => .inr trivial, l'.map (Value.int .i64), ⟨by simp, .inr ⟨blk, cap, _, by rw [List.length_map], Nat.zero_le _, hheap', by rw [List.length_map]; omega, hcm, by rw [hpl]; exact hcs, ?_⟩⟩, Nat.one_pos, ?_, ?_, ?_⟩
      · rw [List.length_map, Nat.mul_one]
        exact take_put cur zs l' (by omega) hpre (by omega)
      · intro r hr
        obtain ⟨y, hy, rfl⟩ := List.mem_map.1 hr
        rfl
      · intro v hv
        obtain ⟨y, hy, rfl⟩ := List.mem_map.1 hv
        rfl
      · intro k j r dd hr hd
        have hk : k < l'.length := by have := (List.getElem?_eq_some_iff.1 hr).1; simpa using this
        simp only [List.getElem?_map, List.getElem?_eq_getElem hk, Option.map_some, Option.some.injEq] at hr
        subst hr
        match j, hd with
        | 0, hd =>
          simp only [iE, List.getElem?_cons_zero, Option.some.injEq] at hd
          subst hd
          exact ⟨.int .i64 l'[k], by simp [hk], .v rfl⟩
        | j + 1, hd => simp [iE] at hd
  · intro i j x o y o' b hi hj _ _ _ _
    have a1 := (List.getElem?_eq_some_iff.1 hi).1
    have a2 := (List.getElem?_eq_some_iff.1 hj).1
    simp at a1 a2
    omega
  · intro b hb h
    rw [hofs b h] at hb
    exact hnA hb
  · intro k hk hnk
    exact hWheap k (fun e => hnk (e ▸ hmine)) hk
  · intro b h
    rw [hofs b h]
    exact .inl hmine
/-- a function that turns a row of ints in place: what the kit says of it, as a contract -/
theorem ints_retM {P : Program} {f : FuncId} {e : TypeId} (hf : ∀ (vs : Array Value) (w : World), (callFunc f vs).run P w = .ok (.enter f vs) w) (l l' zs : List Int) (kept : List Bool) (d : DV) (R : Option Addr → Nat → Value)
    (hN : l = [] → ∀ (p : Option Addr) (cap : Nat) (w : World), Calls P f #[.slice p 0 cap] w fun e w' => e = .returned (R p cap) ∧ w' = w)
    (hC : ∀ (blk cap : Nat) (w : World), Go.Sort.Holds (Value.int .i64) w blk 0 l.toArray → blk < w.heap.size → l.length ≤ cap → Calls P f #[.slice (some ⟨blk, 0, none⟩) l.length cap] w fun e w' => e = .returned (R (some ⟨blk, 0, none⟩) cap) ∧ ∃ n os, w' = grow (putRow (Value.int .i64) (Go.Sort.ahead w n) blk 0 zs.toArray) os)
    (hz : zs.length = l.length) (hpre : zs.take l'.length = l') (hll : l'.length ≤ l.length) (hkept : kept = [false] ∨ l'.length = l.length)
    (hR : ∀ A w (os' : Objs) p cap, os'[0]? = some (.slice p l'.length cap, .row e 1 (l'.map iE)) → RepV (avoid A os') os' w (R p cap) d) :
    RetM P f [.row e 1 (l.map iE)] [.own 0] kept [.row e 1 (l'.map iE)] d := by
  refine ⟨hf, fun A w os vals hA hL hv => ?_⟩
  obtain ⟨x, rfl⟩ : ∃ x, os = [(x, LObj.row e 1 (l.map iE))] := by
    have := hL.loc
    match os, this with
    | [(x, o)], this => simp at this; subst this; exact ⟨x, rfl⟩
  match vals, hv with
  | [v1], ⟨h1, _⟩ =>
  have e1 : v1 = x := h1.own_row (i := 0) rfl
  subst e1
  obtain ⟨hB, xs, ⟨hxl, hrow⟩, hsz, hrl, hone, hcell⟩ := hL.obj 0 v1 _ rfl
  rw [List.length_map] at hrow hxl
  have hnone : ∀ (p : Option Addr) (cap : Nat), l = [] → v1 = .slice p 0 cap → Calls P f [v1].toArray w fun e_1 w' => ∃ v os', e_1 = .returned v ∧ Laid A os' [.row e 1 (l'.map iE)] w' ∧ RepV (avoid A os') os' w' v d ∧ Grown (ofOs [(v1, LObj.row e 1 (l.map iE))]) w w' ∧ (∀ b, ofOs os' b → ofOs [(v1, LObj.row e 1 (l.map iE))] b ∨ w.heap.size ≤ b) ∧
      ∀ (i : Nat) x o, kept[i]? = some true → ([(v1, LObj.row e 1 (l.map iE))] : Objs)[i]? = some (x, o) → ∃ o', os'[i]? = some (x, o') := fun p cap hl hv1 => by
    subst hl hv1
    have : l' = [] := List.length_eq_zero_iff.1 (by simpa using hll)
    subst this
    refine (hN rfl p cap w).mono fun e0 w' he => ?_
    obtain ⟨rfl, rfl⟩ := he
    exact ⟨_, _, rfl, hL, hR _ _ _ p cap rfl, ⟨rfl, rfl, rfl, Nat.le_refl _, fun _ _ _ => rfl⟩, fun b h => .inl h, fun i x o h1 h2 => ⟨o, h2⟩⟩
  rcases hrow with ⟨rfl, h0⟩ | ⟨blk, cap, cur, rfl, _, hheap, hnc, hcm, hcs, htk⟩
  · exact hnone none 0 (List.length_eq_zero_iff.1 h0) rfl
  by_cases hn0 : l.length = 0
  · exact hnone (some ⟨blk, 0, none⟩) cap (List.length_eq_zero_iff.1 hn0) (by rw [hn0])
  have hblk : blk < w.heap.size := (Array.getElem?_eq_some_iff.1 hheap).1
  have hH : Go.Sort.Holds (Value.int .i64) w blk 0 l.toArray := by
    intro j hj
    have hj' : j < l.length := by simpa using hj
    have hlj : (l.map iE)[j]? = some (iE l[j]) := by simp [hj']
    obtain ⟨u, hu, him⟩ := hcell j 0 _ _ hlj (rfl : (iE l[j])[0]? = some (.v (.int .i64 l[j])))
    have hu2 : u = .int .i64 l[j] := him.v_inv
    subst hu2
    rw [Nat.mul_one, Nat.add_zero, ← htk, List.getElem?_take] at hu
    have hjl : j < l.length * 1 := by omega
    rw [if_pos hjl, Array.getElem?_toList] at hu
    refine ⟨?_, by simp [World.frozen?, hheap]⟩
    simp only [World.cell?, hheap, Nat.zero_add]
    simp only [Option.isSome_none, Bool.false_eq_true, if_false]
    rw [hu]
    simp [hj']
  refine (hC blk cap w hH hblk hnc).mono fun e0 w' he => ?_
  obtain ⟨rfl, n, os1, rfl⟩ := he
  obtain ⟨g1, g2, g3⟩ := ints_laid (n := n) (os1 := os1) hL hheap hz hnc hcm hcs hpre hll
  refine ⟨_, _, rfl, g1, hR _ _ _ _ _ rfl, g2, g3, ?_⟩
  intro i x o h1 h2
  match i, h2 with
  | 0, h2 =>
    simp at h2
    obtain ⟨rfl, _⟩ := h2
    rcases hkept with rfl | hk
    · simp at h1
    · rw [← hk]
      exact ⟨_, rfl⟩
theorem sortI_retM {P : Program} {ρ : Go.Shelf.Ren} {f : FuncId} {e : TypeId} (L : Lays.n189 P ρ) (hρ : ρ.f 189 = f) (hf : ∀ (vs : Array Value) (w : World), (callFunc f vs).run P w = .ok (.enter f vs) w) (l l' : List Int) (hp : l'.Perm l) (hs : l'.Pairwise fun x y => x ≤ y) (hlen : l.length < 4611686018427387904) :
    RetM P f [.row e 1 (l.map iE)] [.own 0] [true] [.row e 1 (l'.map iE)] (.tup []) := by
  subst hρ
  have he : l.mergeSort (fun x y => decide (x ≤ y)) = l' := by
    have h1 := List.pairwise_mergeSort (le := fun x y : Int => decide (x ≤ y)) (fun a b c h1 h2 => by simp at *; omega) (fun a b => by simp; omega) l
    refine List.Perm.eq_of_pairwise (le := fun x y : Int => x ≤ y) (fun a b _ _ h1 h2 => by omega) (h1.imp fun h => by simpa using h) hs ((List.mergeSort_perm _ _).trans hp.symm)
  refine ints_retM hf l l' l' [true] (.tup []) (fun _ _ => .tuple #[]) (fun _ p cap w => Any.slices_Sort_int_none L p cap w) (fun blk cap w hH hb _ => ?_) hp.length_eq (List.take_length ..) (Nat.le_of_eq hp.length_eq) (.inr hp.length_eq) (fun A w os' p cap h => .imm (.tup (vs := []) (ds := []) rfl (fun i v d h => by simp at h)))
  have h := Any.slices_Sort_int L blk 0 cap l w hH hb hlen
  rw [he] at h
  exact h
theorem grow_nil (w : World) : grow w #[] = w := by
  cases w
  simp [grow]
theorem compact_len (l : List Int) : (Lib.compact l).length ≤ l.length := by
  unfold Lib.compact Lib.compactUpTo
  rw [List.length_map]
  exact Nat.le_trans (List.length_filter_le ..) (by simp)
theorem compactI_retM {P : Program} {ρ : Go.Shelf.Ren} {f : FuncId} {e : TypeId} (L : Lays2.n20 P ρ) (hρ : ρ.f 20 = f) (hf : ∀ (vs : Array Value) (w : World), (callFunc f vs).run P w = .ok (.enter f vs) w) (l : List Int) (hlen : l.length ≤ 9223372036854775807) :
    RetM P f [.row e 1 (l.map iE)] [.own 0] [false] [.row e 1 ((Lib.compact l).map iE)] (.own 0) := by
  subst hρ
  have hc := compact_len l
  by_cases hl : l = []
  · subst hl
    refine ints_retM hf [] (Lib.compact []) [] [false] (.own 0) (fun p cap => .slice p (Lib.compact ([] : List Int)).length cap) (fun _ p cap w => Any.slices_Compact_int_empty L p cap w) (fun blk cap w hH hb _ => ?_) rfl rfl (Nat.le_refl _) (.inl rfl) (fun A w os' p cap h => .own h rfl)
    refine (Any.slices_Compact_int_empty L (some ⟨blk, 0, none⟩) cap w).mono fun e0 w' he => ?_
    obtain ⟨rfl, rfl⟩ := he
    refine ⟨rfl, 0, #[], ?_⟩
    refine (Go.Sort.putRow_self (Value.int .i64) _ blk 0 #[] ?_).symm.trans ?_
    · intro j hj
      simp at hj
    · rw [grow_nil]
      rfl
  · refine ints_retM hf l (Lib.compact l) (Lib.compact l ++ List.replicate (l.length - (Lib.compact l).length) 0) [false] (.own 0) (fun p cap => .slice p (Lib.compact l).length cap) (fun h => absurd h hl) (fun blk cap w hH hb hcap => ?_) (by simp; omega) (by simp) hc (.inl rfl) (fun A w os' p cap h => .own h rfl)
    · refine (Any.slices_Compact_int L blk 0 cap l w hH hlen hcap).mono fun e0 w' he => ?_
      obtain ⟨rfl, q, rfl⟩ := he
      exact ⟨rfl, q, #[], (grow_nil _).symm⟩
theorem enters_of {P : Program} {f : FuncId} {fn : Func} {c : Code} (hf : P.funcs[f]? = some fn) (hname : (fn.name == "runtime.NumGoroutine") = false) (hb : fn.body = some c) (vs : Array Value) (w : World) : (callFunc f vs).run P w = .ok (.enter f vs) w := by
  simp only [callFunc, Sem.run_bind, run_program, Result.andThen_ok, hf, hname, hb, Option.isNone_some]
  rfl
/-- what is left of a sorted list -/
theorem cmp_up {zs : List Int} (hs : zs.Pairwise fun x y => x ≤ y) : ∀ m, m ≤ zs.length → (Lib.compactUpTo zs.toArray m).Pairwise (fun x y => x < y) ∧ ∀ x, x ∈ Lib.compactUpTo zs.toArray m ↔ x ∈ zs.take m
  | 0, _ => by simp [Lib.compactUpTo]
  | m + 1, h => by
    obtain ⟨h1, h2⟩ := cmp_up hs m (by omega)
    have hm : m < zs.length := by omega
    have e1 : zs.toArray[m]! = zs[m] := by simp [getElem!_pos, hm]
    have hup : ∀ x, x ∈ zs.take m → x ≤ zs[m] := fun x hx => by
      obtain ⟨j, hj, rfl⟩ := List.getElem_of_mem hx
      rw [List.getElem_take]
      rw [List.length_take] at hj
      exact List.pairwise_iff_getElem.1 hs j m (by omega) hm (by omega)
    rw [Lib.compactUpTo_succ, List.take_succ_eq_append_getElem hm, e1]
    by_cases h0 : m = 0
    · subst h0
      have hk : Lib.keeps zs.toArray 0 = true := Lib.keeps_lt_one _ 0 (by omega)
      rw [if_pos hk]
      simp [Lib.compactUpTo]
    · have hm1 : m - 1 < zs.length := by omega
      have e2 : zs.toArray[m - 1]! = zs[m - 1] := by simp [getElem!_pos, hm1]
      have hin : zs[m - 1] ∈ zs.take m := by
        refine List.mem_iff_getElem.2 ⟨m - 1, by simp; omega, ?_⟩
        rw [List.getElem_take]
      by_cases he : zs[m] = zs[m - 1]
      · have hk : Lib.keeps zs.toArray m = false := Lib.keeps_neg (by omega) (by rw [e1, e2, he])
        rw [hk, if_neg (by simp), List.append_nil]
        refine ⟨h1, fun x => ?_⟩
        rw [h2, List.mem_append, List.mem_singleton]
        refine ⟨.inl, fun h => h.elim id fun h => ?_⟩
        rw [h, he]
        exact hin
      · have hk : Lib.keeps zs.toArray m = true := Lib.keeps_pos (by rw [e1, e2]; exact he)
        rw [if_pos hk]
        refine ⟨List.pairwise_append.2 ⟨h1, by simp, fun x hx y hy => ?_⟩, fun x => ?_⟩
        · rw [List.mem_singleton] at hy
          subst hy
          have hx := (h2 x).1 hx
          have h3 := hup x hx
          obtain ⟨j, hj, rfl⟩ := List.getElem_of_mem hx
          rw [List.getElem_take] at h3 ⊢
          rw [List.length_take] at hj
          have hle : zs[j] ≤ zs[m - 1] := by
            by_cases hjm : j = m - 1
            · subst hjm
              exact Int.le_refl _
            · exact List.pairwise_iff_getElem.1 hs j (m - 1) (by omega) hm1 (by omega)
          have hle2 : zs[m - 1] ≤ zs[m] := hup _ hin
          omega
        · rw [List.mem_append, List.mem_append, h2]
theorem compact_ok {zs : List Int} (hs : zs.Pairwise fun x y => x ≤ y) : (Lib.compact zs).Pairwise (fun x y => x < y) ∧ ∀ x, x ∈ Lib.compact zs ↔ x ∈ zs := by
  have h := cmp_up hs zs.length (Nat.le_refl _)
  rw [List.take_length] at h
  exact h
end Go.Lift
