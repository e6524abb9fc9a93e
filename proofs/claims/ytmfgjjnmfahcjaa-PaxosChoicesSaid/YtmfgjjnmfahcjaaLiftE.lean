/- A data-level logic for the model: what a body does to data; its soundness (part LiftE). No conditions. -/
import Derived.Test.YtmfgjjnmfahcjaaLiftD
set_option linter.unusedSimpArgs false
set_option linter.unusedVariables false
namespace Go.Lift
open Go

/-! # The operations on a state -/
section
variable {P : Program} {tt : TT} {A0 : Nat → Prop} {w0 : Home} {n : Nat} {os : Objs} {s : DS} {a : Act} {w : World} {o : Oper} {K : DS → Prop}

def Nx (A0 : Nat → Prop) (w0 : Home) (n : Nat) (K : DS → Prop) (a : Act) (w : World) : Prop := ∃ os s, Rep A0 w0 n os s a w ∧ K s
theorem wp_value {next : Act → World → Prop} {Q : Exit → Act → World → Prop} {x : Value} {w' : World} (hrun : (execOp a.eval o).run P w = .ok (.value x) w') (h : next (a.put o.dst x) w') : o.wp P a w next Q := by
  unfold Oper.wp; rw [hrun]; exact h
theorem wp_skip' {next : Act → World → Prop} {Q : Exit → Act → World → Prop} {w' : World} (hrun : (execOp a.eval o).run P w = .ok .skip w') (h : next (a.put o.dst undef) w') : o.wp P a w next Q := by
  unfold Oper.wp; rw [hrun]; exact h
theorem Nx.put {dst : Option Tmp} {x : Value} {d : DV} (h : Rep A0 w0 n os s a w) (hd : ∀ t, dst = some t → t < n) (hr : RepV (avoid A0 os) os w x d) (hK : putK s dst d K) : Nx A0 w0 n K (a.put dst x) w :=
  ⟨os, _, h.put hd hr, putK_iff.1 hK⟩
theorem rep_gone {A : Nat → Prop} {d : DV} : RepV A os w undef (.wh false d) := .wh (fun h => by cases h) (fun _ => rfl)

theorem CellsRep.keep {A A' : Nat → Prop} {os os' : Objs} {w w' : World} {arr : Array Value} {cs : List DV} (h : CellsRep A os w arr cs) (k : Keeps A A' w w') (ha : Alike os os') : CellsRep A' os' w' arr cs :=
  ⟨h.size, h.one, fun i v d hv hd => (h.rep i v d hv hd).keep k ha⟩
theorem last_obj {x : Value} {ob : LObj} : (os ++ [(x, ob)])[os.length]? = some (x, ob) := by simp
theorem Rep.len (h : Rep A0 w0 n os s a w) : s.loc.length = os.length := by rw [h.loc]; simp
theorem keeps_push {w' : World} {x : Value} {ob : LObj} (h : Rep A0 w0 n os s a w) (hg : w.grownBy w' none) (hnew : ∀ b, blk x = some b → w.heap.size ≤ b) : Keeps (avoid A0 os) (avoid A0 (os ++ [(x, ob)])) w w' :=
  .grown hg (fun b hb hv => by
    rcases avoid_push hv with hv | ⟨_, hv⟩
    · exact hv
    · have := hnew b hv; omega)
theorem push_cells {t : TypeId} {arr : Array Value} {cs : List DV} (h : Rep A0 w0 n os s a w) (hr : CellsRep (avoid A0 os) os w arr cs) :
    Rep A0 w0 n (os ++ [(.pointer (some ⟨w.heap.size, 0, none⟩), .cells t cs)]) ⟨s.env, s.loc ++ [.cells t cs]⟩ a (w.alloc (.cells arr t)) := by
  have hnew : ∀ b, blk (.pointer (some ⟨w.heap.size, 0, none⟩)) = some b → w.heap.size ≤ b := by
    intro b hb
    simp [blk] at hb
    omega
  refine h.push (World.grownBy_alloc w _ none) hnew ?_
  have hr' := hr.keep (keeps_push (ob := .cells t cs) h (World.grownBy_alloc w (.cells arr t) none) hnew) (alike_push (.pointer (some ⟨w.heap.size, 0, none⟩)) (.cells t cs))
  exact ⟨w.heap.size, arr, rfl, Home.mine_new h.gr (Nat.le_refl _), heap_alloc_new w _, hr'.size, hr'.one, hr'.rep⟩

theorem alloc_ok (hT : tabOk P tt = true) {t : TypeId} {Q : Exit → Act → World → Prop} (ho : o.op = .alloc t) (h : Rep A0 w0 n os s a w) (hd : ∀ t, o.dst = some t → t < n) (hs : (tinfo tt t).size ≠ 0)
    (hK : putK ⟨s.env, s.loc ++ [.cells t (tinfo tt t).zero]⟩ o.dst (.lp s.loc.length 0) K) : o.wp P a w (Nx A0 w0 n K) Q := by
  obtain ⟨z, hz, hr, _⟩ := zero_run (A := avoid A0 os) (os := os) (w := w) hT hs
  have hp := push_cells (t := t) h hr
  refine wp_value (x := .pointer (some ⟨w.heap.size, 0, none⟩)) (w' := w.alloc (.cells z.cells t)) ?_ (Nx.put hp hd ?_ hK)
  · simp only [execOp, ho, Instr.alloc, Sem.run_bind, hz, Result.andThen_ok, newVar, newRow, run_newObj, Sem.run_pure, World.alloc_eq]
  · rw [h.len]
    exact .lp last_obj
theorem box_ok {t : TypeId} {x : Operand} {d : DV} {Q : Exit → Act → World → Prop} (ho : o.op = .box t x) (h : Rep A0 w0 n os s a w) (hd : ∀ t, o.dst = some t → t < n) (e : ev s x = d) (h1 : ∀ b d', d ≠ .wh b d') (h2 : ∀ l, d ≠ .tup l) (h3 : d ≠ .junk)
    (hK : putK ⟨s.env, s.loc ++ [.cells t (dcells d)]⟩ o.dst (.lp s.loc.length 0) K) : o.wp P a w (Nx A0 w0 n K) Q := by
  have hx := h.ev x
  rw [e] at hx
  obtain ⟨hl, hone, hp⟩ := hx.cells h1 h2 h3
  have hp := push_cells (t := t) h (arr := (a.eval x).cells) (cs := dcells d) ⟨by simpa using hl, hone, fun i v d hv hd => hp i v d (by simpa using hv) hd⟩
  refine wp_value (x := .pointer (some ⟨w.heap.size, 0, none⟩)) (w' := w.alloc (.cells (a.eval x).cells t)) ?_ (Nx.put hp hd ?_ hK)
  · simp only [execOp, ho, Instr.box, Sem.run_bind, Result.andThen_ok, newVar, newRow, run_newObj, Sem.run_pure, World.alloc_eq]
  · rw [h.len]
    exact .lp last_obj

/-! ## stores -/
theorem setRow_grown {g : Nat} {cs : Array Value} : w.grownBy (w.setRow g cs) (some g) :=
  ⟨rfl, rfl, rfl, by simp, fun k hk hne => setRow_other w g k cs (fun e => hne (by rw [e]))⟩
theorem get_lay {vs cur : List Value} {off j : Nat} (h : off + vs.length ≤ cur.length) : (cur.take off ++ vs ++ cur.drop (off + vs.length))[j]? = if off ≤ j ∧ j < off + vs.length then vs[j - off]? else cur[j]? := by
  have h1 : (cur.take off).length = off := by simp; omega
  by_cases c1 : j < off
  · rw [if_neg (by omega), List.append_assoc, List.getElem?_append_left (by omega), List.getElem?_take, if_pos c1]
  · by_cases c2 : j < off + vs.length
    · rw [if_pos ⟨by omega, c2⟩, List.getElem?_append_left (by simp; omega), List.getElem?_append_right (by omega), h1]
    · rw [if_neg (by omega), List.getElem?_append_right (by simp; omega), List.getElem?_drop]
      congr 1
      simp
      omega
theorem lay_length {vs cur : List Value} {off : Nat} (h : off + vs.length ≤ cur.length) : (cur.take off ++ vs ++ cur.drop (off + vs.length)).length = cur.length := by simp; omega
theorem store_run (hT : tabOk P tt = true) {t : TypeId} {x y : Operand} {g off : Nat} {cur : Array Value} {ty : TypeId} (ho : o.op = .store t x y) (hs : (tinfo tt t).size ≠ 0) (hx : a.eval x = .pointer (some ⟨g, off, none⟩)) (hsz : (a.eval y).cells.size = (tinfo tt t).size) (hone : ∀ v ∈ (a.eval y).cells.toList, v.oneCell' = true)
    (hg : w.heap[g]? = some (.cells cur ty (0, 0))) (hfit : off + (a.eval y).cells.size ≤ cur.size) :
    (execOp a.eval o).run P w = .ok .skip (w.setRow g (cur.toList.take off ++ (a.eval y).cells.toList ++ cur.toList.drop (off + (a.eval y).cells.toList.length)).toArray) := by
  have := run_storeCells_at P g off ty (a.eval y).cells.toList 0 cur w hg (by simpa using hfit) hone
  simp only [Nat.add_zero] at this
  have hne : ¬ ((a.eval y).cells.size ≠ (tinfo tt t).size) := fun h => h hsz
  simp only [execOp, ho, Instr.storeAt, hx, Instr.sureAddr, storeVar, Sem.run_bind, Sem.run_pure, Result.andThen_ok, run_sizeOf_tab hT hs, if_neg hne, this]

theorem store_cells_ok (hT : tabOk P tt = true) {t ty : TypeId} {x y : Operand} {i off g : Nat} {cs : List DV} {d : DV} {Q : Exit → Act → World → Prop} (ho : o.op = .store t x y) (h : Rep A0 w0 n os s a w) (hd : ∀ t, o.dst = some t → t < n)
    (hs : (tinfo tt t).size ≠ 0) (hx : a.eval x = .pointer (some ⟨g, off, none⟩)) (hi : os[i]? = some (.pointer (some ⟨g, 0, none⟩), .cells ty cs)) (e : ev s y = d) (h1 : ∀ b d', d ≠ .wh b d') (h2 : ∀ l, d ≠ .tup l) (h3 : d ≠ .junk)
    (hsz : (dcells d).length = (tinfo tt t).size) (hfit : off + (dcells d).length ≤ cs.length) (hK : putK ⟨s.env, lset s.loc i (.cells ty (dsplice cs off (dcells d)))⟩ o.dst (.wh false (.v (.bool false))) K) : o.wp P a w (Nx A0 w0 n K) Q := by
  have hy := h.ev y
  rw [e] at hy
  obtain ⟨hl, hone, hp⟩ := hy.cells h1 h2 h3
  obtain ⟨arr, hh, hasz, hB, haone, harr, _⟩ := obj_cells h.obj hi
  have hl' : (a.eval y).cells.size = (dcells d).length := by simpa using hl
  have hfit' : off + (a.eval y).cells.toList.length ≤ arr.toList.length := by simp only [Array.length_toList]; omega
  have hrun := store_run (P := P) (w := w) hT ho hs hx (by omega) hone hh (by omega)
  refine wp_skip' hrun (Nx.put (os := os.set i (.pointer (some ⟨g, 0, none⟩), .cells ty (dsplice cs off (dcells d)))) (h.update hi (ob' := .cells ty (dsplice cs off (dcells d))) rfl (by simp) (by simp) setRow_grown ?_) hd rep_gone hK)
  have halike : Alike os (os.set i (.pointer (some ⟨g, 0, none⟩), .cells ty (dsplice cs off (dcells d)))) := by
    intro j z o' hj
    by_cases e : j = i
    · subst e; rw [hi] at hj; cases hj
      exact ⟨_, List.getElem?_set_self (List.getElem?_eq_some_iff.1 hi).1, rfl⟩
    · exact ⟨o', by rw [List.getElem?_set_ne (fun e' => e e'.symm)]; exact hj, by cases o' <;> simp [kindIs]⟩
  have hkeep : Keeps (avoid A0 os) (avoid A0 (os.set i (.pointer (some ⟨g, 0, none⟩), .cells ty (dsplice cs off (dcells d))))) w (w.setRow g (arr.toList.take off ++ (a.eval y).cells.toList ++ arr.toList.drop (off + (a.eval y).cells.toList.length)).toArray) := by
    refine ⟨by simp, fun b hb hv => ?_, fun b hb hn => setRow_other w g b _ (fun e => hn (.inr ⟨i, _, _, hi, by simp, by simp [blk, e]⟩))⟩
    rcases hv with hv | ⟨j, z, o', hj, hdd, hbb⟩
    · exact .inl hv
    · by_cases e : j = i
      · subst e
        rw [List.getElem?_set_self (List.getElem?_eq_some_iff.1 hi).1] at hj
        cases hj
        exact .inr ⟨_, _, _, hi, by simp, hbb⟩
      · rw [List.getElem?_set_ne (fun e' => e e'.symm)] at hj
        exact .inr ⟨j, z, o', hj, hdd, hbb⟩
  refine ⟨g, _, rfl, hB, setRow_heap w g arr _ ty _ hh, ?_, fun v hv => ?_, fun j v d' hv hd' => ?_⟩
  · rw [List.size_toArray, lay_length hfit', length_dsplice]
    simpa using hasz
  · obtain ⟨j, hj, rfl⟩ := List.getElem_of_mem hv
    have hg2 := List.getElem?_eq_getElem hj
    simp only [] at hg2
    rw [get_lay hfit'] at hg2
    split at hg2
    · exact hone _ (List.mem_of_getElem? hg2)
    · exact haone _ (List.mem_of_getElem? hg2)
  · rw [List.getElem?_toArray, get_lay hfit'] at hv
    rw [get_dsplice _ _ _ _ hfit, ← hl] at hd'
    split at hv
    · rename_i hc
      rw [if_pos hc] at hd'
      exact (hp _ v d' hv hd').keep hkeep halike
    · rename_i hc
      rw [if_neg hc] at hd'
      exact (harr j v d' (by simpa using hv) hd').keep hkeep halike
end
end Go.Lift
