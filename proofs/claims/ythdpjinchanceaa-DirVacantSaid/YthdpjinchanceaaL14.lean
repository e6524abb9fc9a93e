/- The laws of this seat, part L14: contracts of the functions, plain laws. No conditions. -/
import Derived.Test.YthdpjinchanceaaK14
set_option linter.unusedSimpArgs false
set_option linter.unusedVariables false
namespace Go.Proofs.Ythdpjinchanceaa
open Go.Lift
def recEq (a b : Rec) : Bool := decide (a.ref.ty = b.ref.ty) && (decide (a.ref.key = b.ref.key) && (decide (a.mem = b.mem) && (decide (a.ep = b.ep) && (decide (a.tgt = b.tgt) && true))))
def sameB (a b : List Rec) : Bool := decide ((a.length : Int) = (b.length : Int)) && allB (fun i => recEq (a.getD i zeroR) (b.getD i zeroR)) a.length
theorem r18 (a b : List Rec) (ha : a.length ≤ maxLen) : Ret Try.prog 18 [.lst 5 (a.map recE) false, .lst 5 (b.map recE) false] (.v (.bool (sameB a b))) := by
  have hl' : a.length ≤ 9223372036854775807 := ha
  refine ret_of_body (fn := Try.f18) (c := Try.f18.body.getD .skip) hm hT (by kernel_rfl) Try.func18 (by kernel_rfl) (by kernel_rfl) (by kernel_rfl) (by kernel_rfl) ?_
  repeat' ((conv => whnf); first | refine And.intro (fun h => h) ?_ | refine dcond_t (by assumption) ?_ | refine dcond_f (by assumption) ?_ | (refine dcond_intro ?_ ?_ <;> intro h) | exact .refl | refine And.intro (by kernel_rfl) ?_ | refine And.intro ⟨fun h => h, fun h => h⟩ ?_ | (refine And.intro ?_ ?_; focus (simp; done)) | fail)
  · refine dle_bool ?_
    simp only [List.length_map] at h
    have h : decide ((a.length : Int) = (b.length : Int)) = false := by simpa using h
    simp only [sameB, h, Bool.false_and]
  · have h0 : a.length = b.length := by
      simp at h
      omega
    clear h
    conv => whnf
    refine ⟨Nat, fun i => ⟨[(0, .lst 5 (a.map recE) false), (1, .lst 5 (b.map recE) false), (5, i64 i)], []⟩, fun i => i ≤ a.length ∧ ∀ j, j < i → recEq (a.getD j zeroR) (b.getD j zeroR) = true, fun i => a.length - i, [], ⟨0, ⟨Nat.zero_le _, by omega⟩, ?_⟩, ?_⟩
    · exact ⟨by repeat' ((conv => whnf); first | exact trivial | refine And.intro (by (conv => arg 1; whnf); first | (with_reducible exact .refl) | exact dle_int (wrap_succ (by omega)) | exact .refl) ?_), by repeat' ((conv => whnf); first | exact trivial | refine And.intro ?_ ?_ | exact .refl), rfl⟩
    · intro i ⟨hi, hall⟩
      repeat' ((conv => whnf); first | refine And.intro (fun h => h) ?_ | refine dcond_t (by assumption) ?_ | refine dcond_f (by assumption) ?_ | (refine dcond_intro ?_ ?_ <;> intro h) | exact .refl | refine And.intro (by kernel_rfl) ?_ | refine And.intro ⟨fun h => h, fun h => h⟩ ?_ | (refine And.intro ?_ ?_; focus (simp; done)) | fail)
      · have hlt : i < a.length := by simpa using h
        have hlt2 : i < b.length := by omega
        clear h
        have hg : a.getD i zeroR = a[i] := by simp [hlt]
        have hg2 : b.getD i zeroR = b[i] := by simp [hlt2]
        repeat' ((conv => whnf); first | refine And.intro (fun h => h) ?_ | refine dcond_t (by assumption) ?_ | refine dcond_f (by assumption) ?_ | (refine dcond_intro ?_ ?_ <;> intro h) | exact .refl | refine And.intro (by kernel_rfl) ?_ | refine And.intro ⟨fun h => h, fun h => h⟩ ?_ | refine ⟨_, _, And.intro ⟨rfl, get_map hlt⟩ ?_⟩ | refine ⟨_, _, And.intro ⟨rfl, get_map hlt2⟩ ?_⟩ | (refine And.intro ?_ ?_; focus (simp; done)) | fail)
        · refine dle_bool ?_
          have h : (!recEq a[i] b[i]) = true := h
          rw [sameB, allB_false hlt (i := i), Bool.and_false]
          rw [hg, hg2]
          simpa using h
        · conv => whnf
          refine ⟨i + 1, ⟨hlt, fun j hj => ?_⟩, by simp only []; omega, ?_⟩
          · rcases Nat.lt_succ_iff_lt_or_eq.1 hj with hj | rfl
            · exact hall j hj
            · have h : (!recEq a[j] b[j]) = false := h
              rw [hg, hg2]
              simpa using h
          · exact ⟨by repeat' ((conv => whnf); first | exact trivial | refine And.intro (by (conv => arg 1; whnf); first | (with_reducible exact .refl) | exact dle_int (wrap_succ (by omega)) | exact .refl) ?_), by repeat' ((conv => whnf); first | exact trivial | refine And.intro ?_ ?_ | exact .refl), rfl⟩
      · have hge : ¬ i < a.length := by simpa using h
        conv => whnf
        refine dle_bool ?_
        rw [sameB, allB_true.2 (fun j hj => hall j (by omega)), h0]
        simp
def recFix (v : View) (x : Rec) : Rec :=
  let y : Rec := bif !inB v.mem x.mem then ⟨x.ref, 0, x.ep, 0⟩ else x
  bif !inB v.mem y.tgt then ⟨y.ref, y.mem, y.ep, 0⟩ else y
def recoR (d : List Rec) (v : View) : List Rec := bif !validB d || !viewB v then [] else d.map (recFix v)
def esAt (d : List Rec) (v : View) (i : Nat) : List (List DV) := ((d.take i).map (recFix v) ++ d.drop i).map recE
theorem ole_row {e : TypeId} {sz : Nat} {es es' : List (List DV)} (h : es = es') : ole (.row e sz es) (.row e sz es') := by subst h; exact .refl
theorem es_step {d : List Rec} {v : View} {i : Nat} (h : i < d.length) : (esAt d v i).set i (recE (recFix v (d[i]'h))) = esAt d v (i + 1) := by
  have e : i = ((d.take i).map (recFix v)).length := by simp; omega
  have e2 : d.drop i = d[i] :: d.drop (i + 1) := List.drop_eq_getElem_cons h
  simp only [esAt]
  rw [← List.map_set, e2]
  congr 1
  rw [List.set_append_right _ _ (by simp only [List.length_map, List.length_take]; omega)]
  simp only [List.length_map, List.length_take, Nat.min_eq_left (Nat.le_of_lt h), Nat.sub_self, List.set_cons_zero]
  rw [List.take_succ_eq_append_getElem h]
  simp only [List.map_append, List.map_cons, List.map_nil, List.append_assoc, List.cons_append, List.nil_append]
theorem es_same {l : List (List DV)} {i : Nat} {x : List DV} (h : l[i]? = some x) : l.set i x = l := by
  obtain ⟨h1, rfl⟩ := List.getElem?_eq_some_iff.1 h
  simp
theorem r13 (d : List Rec) (hl : d.length ≤ maxLen) (v : View) (hv : v.mem.length ≤ maxLen) : Ret Try.prog 13 [.lst 5 (d.map recE) false, .agg (viewE v)] (.lst 5 ((recoR d v).map recE) false) := by
  have hl' : d.length ≤ 9223372036854775807 := hl
  refine ret_of_body (fn := Try.f13) (c := Try.f13.body.getD .skip) hm hT (by kernel_rfl) Try.func13 (by kernel_rfl) (by kernel_rfl) (by kernel_rfl) (by kernel_rfl) ?_
  repeat' ((conv => whnf); first | refine And.intro (fun h => h) ?_ | refine dcond_t (by assumption) ?_ | refine dcond_f (by assumption) ?_ | (refine dcond_intro ?_ ?_ <;> intro h) | exact .refl | refine And.intro (by kernel_rfl) ?_ | refine And.intro ⟨fun h => h, fun h => h⟩ ?_ | refine ⟨_, _, DleAll_refl _, r14 _ hl, ?_⟩ | refine ⟨_, _, DleAll_refl _, fun _ => r14 _ hl, ?_⟩ | refine ⟨_, _, DleAll_refl _, r23 _ hv, ?_⟩ | refine ⟨_, _, DleAll_refl _, fun _ => r23 _ hv, ?_⟩ | (refine And.intro ?_ ?_; focus (simp; done)) | fail)
  · simp only [recoR, h, cond_true]
    exact .nl
  · have hval : validB d = true := by
      cases hq : validB d with
      | true => rfl
      | false => simp [hq] at h
    have hlen := valid_len hval
    have hres : recoR d v = d.map (recFix v) := by simp only [recoR, h, cond_false]
    rw [hres]
    clear h hres
    have hby : (d.map recE).length * (tinfo tt 36).bytes ≤ 140737488355328 := by
      have e : (tinfo tt 36).bytes = 56 := by kernel_rfl
      rw [e]; simp; omega
    have hmx : (d.map recE).length ≤ maxLen := by simpa using hl
    conv => whnf
    refine ⟨(d.map recE).length, (d.map recE).length, rfl, rfl, Nat.le_refl _, hby, hmx, ?_⟩
    repeat' ((conv => whnf); first | refine And.intro (fun h => h) ?_ | refine dcond_t (by assumption) ?_ | refine dcond_f (by assumption) ?_ | (refine dcond_intro ?_ ?_ <;> intro h) | exact .refl | refine And.intro (by kernel_rfl) ?_ | refine And.intro ⟨fun h => h, fun h => h⟩ ?_ | (refine And.intro ?_ ?_; focus (simp; done)) | fail)
    conv => whnf
    refine ⟨Nat, fun i => ⟨[(3, .lp 0 0), (5, .own 1), (23, i64 d.length), (24, i64 i)], [.cells 25 (viewE v), .row 36 5 (esAt d v i)]⟩, fun i => i ≤ d.length, fun i => d.length - i, [], ⟨0, Nat.zero_le _, ?_⟩, ?_⟩
    · refine ⟨⟨.refl, .refl, dle_int (by simp), .refl, trivial⟩, ⟨.refl, ole_row ?_, trivial⟩, rfl⟩
      simp [esAt]
      exact List.take_of_length_le (by simp)
    · intro i hi
      repeat' ((conv => whnf); first | refine And.intro (fun h => h) ?_ | refine dcond_t (by assumption) ?_ | refine dcond_f (by assumption) ?_ | (refine dcond_intro ?_ ?_ <;> intro h) | exact .refl | refine And.intro (by kernel_rfl) ?_ | refine And.intro ⟨fun h => h, fun h => h⟩ ?_ | (refine And.intro ?_ ?_; focus (simp; done)) | fail)
      · have hlt : i < d.length := by simpa using h
        clear h
        have hlt3 : i < (esAt d v i).length := by simp [esAt]; omega
        have hes : (esAt d v i)[i]? = some (recE (d[i]'hlt)) := by
          simp [esAt, List.getElem?_append_right, Nat.min_eq_left hi, hlt]
        have hs : ∀ {l : List (List DV)} {x : List DV}, l.length = (esAt d v i).length → (l.set i x)[i]? = some x := fun e => List.getElem?_set_self (by omega)
        repeat' ((conv => whnf); first | refine And.intro (fun h => h) ?_ | refine dcond_t (by assumption) ?_ | refine dcond_f (by assumption) ?_ | (refine dcond_intro ?_ ?_ <;> intro h) | exact .refl | refine And.intro (by kernel_rfl) ?_ | refine And.intro ⟨fun h => h, fun h => h⟩ ?_ | refine ⟨_, _, DleAll_refl _, r30 _ hv _, ?_⟩ | refine ⟨_, _, DleAll_refl _, fun _ => r30 _ hv _, ?_⟩ | refine ⟨i, And.intro ⟨rfl, hlt3⟩ ?_⟩ | refine ⟨recE (d[i]'hlt), And.intro hes ?_⟩ | refine ⟨recE ⟨d[i].ref, 0, d[i].ep, 0⟩, And.intro (hs (by simp)) ?_⟩ | refine ⟨_, And.intro (hs (by simp)) ?_⟩ | (refine And.intro ?_ ?_; focus (simp; done)) | fail)
        all_goals (conv => whnf)
        all_goals refine ⟨i + 1, hlt, by simp only []; omega, ?_⟩
        all_goals refine ⟨⟨.refl, .refl, .refl, dle_int (wrap_succ (by omega)), trivial⟩, ⟨.refl, ole_row ?_, trivial⟩, rfl⟩
        all_goals rw [← es_step hlt]
        · rename_i h1
          have h : (!inB v.mem 0) = true := h
          have hf : recFix v d[i] = ⟨d[i].ref, 0, d[i].ep, 0⟩ := by simp only [recFix, h1, h, cond_true]
          rw [hf, List.set_set, List.set_set]
          rfl
        · rename_i h1
          have h : (!inB v.mem 0) = false := h
          have hf : recFix v d[i] = ⟨d[i].ref, 0, d[i].ep, 0⟩ := by simp only [recFix, h1, h, cond_true, cond_false]
          rw [hf, List.set_set]
          rfl
        · rename_i h1
          have hf : recFix v d[i] = ⟨d[i].ref, d[i].mem, d[i].ep, 0⟩ := by simp only [recFix, h1, h, cond_true, cond_false]
          rw [hf]
          rfl
        · rename_i h1
          have hf : recFix v d[i] = d[i] := by simp only [recFix, h1, h, cond_false]
          rw [hf, es_same hes]
      · have hge : ¬ i < d.length := by simpa using h
        have : i = d.length := by omega
        subst this
        conv => whnf
        refine dle_lst ?_
        simp [esAt]
end Go.Proofs.Ythdpjinchanceaa
