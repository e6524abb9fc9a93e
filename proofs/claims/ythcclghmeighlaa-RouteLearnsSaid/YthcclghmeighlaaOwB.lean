/- The laws of this seat, part OwB: contracts of the functions, plain laws. No conditions. -/
import Derived.Test.YthcclghmeighlaaOwA
set_option linter.unusedSimpArgs false
set_option linter.unusedVariables false
set_option maxRecDepth 100000
namespace Go.Proofs.Ythcclghmeighlaa
open Go.Lift
/-! package routing -/
structure Loc where
  ref : Ref
  mem : Int
  ep : Int
def locE (e : Loc) : List DV := [.v (.string e.ref.ty), .v (.string e.ref.key), i64 e.mem, i64 e.ep]
def loc0 : Loc := ⟨⟨⟨#[]⟩, ⟨#[]⟩⟩, 0, 0⟩
theorem fitsL {n : Nat} (h : n ≤ 2000000) : fitsIn tt 48 n := by
  have e : (tinfo tt 48).bytes ≤ 64 := by decide +kernel
  refine ⟨?_, ?_⟩
  · have := Nat.mul_le_mul h e
    omega
  · simp only [maxLen]; omega
def entB (e : Loc) : Bool := refB e.ref && decide (e.mem ≥ 1) && decide (e.mem ≤ 1000) && decide (e.ep ≥ 1) && decide (e.ep ≤ 1099511627776)
theorem c_validEntry (e : Loc) : Ret Try.prog 38 [.agg (locE e)] (.v (.bool (entB e))) := by
  refine ret_of_body (fn := Try.f38) (c := Try.f38.body.getD .skip) hm hT (by kernel_rfl) Try.func38 (by kernel_rfl) (by kernel_rfl) (by kernel_rfl) (by kernel_rfl) ?_
  repeat' ((conv => whnf); first | refine And.intro (fun h => h) ?_ | refine dcond_t (by assumption) ?_ | refine dcond_f (by assumption) ?_ | (refine dcond_intro ?_ ?_ <;> intro h) | exact .refl | refine And.intro (by kernel_rfl) ?_ | refine And.intro ⟨fun h => h, fun h => h⟩ ?_ | refine .inl ⟨_, _, DleAll_refl _, c_directory_ValidRef e.ref, ?_⟩ | refine ⟨_, _, DleAll_refl _, fun _ => c_directory_ValidRef e.ref, ?_⟩ | refine ⟨_, _, DleAll_refl _, c_directory_ValidRef e.ref, ?_⟩ | refine Exists.intro false ?_ | (refine And.intro ?_ ?_; focus (simp; done)) | fail)
def idL (c : List Loc) (r : Ref) : Option Nat := c.findIdx? fun x => refEq x.ref r
def ixL (c : List Loc) (r : Ref) : Int := match idL c r with
  | some i => (i : Nat)
  | none => -1
theorem ixL_some {c : List Loc} {r : Ref} {i : Nat} (hlt : i < c.length) (h : refEq c[i].ref r = true) (hall : ∀ j (h : j < c.length), j < i → refEq (c[j].ref) r = false) : ixL c r = (i : Nat) := by
  have : idL c r = some i := List.findIdx?_eq_some_iff_getElem.2 ⟨hlt, h, fun j hj => by simp [hall j (by omega) hj]⟩
  simp [ixL, this]
theorem ixL_none {c : List Loc} {r : Ref} (hall : ∀ j (h : j < c.length), refEq (c[j].ref) r = false) : ixL c r = -1 := by
  have : idL c r = none := List.findIdx?_eq_none_iff.2 (fun x hx => by
    obtain ⟨j, hj, rfl⟩ := List.getElem_of_mem hx
    exact hall j hj)
  simp [ixL, this]
theorem c_routing_index (c : List Loc) (hl : c.length ≤ 1000000) (r : Ref) : Ret Try.prog 37 [.lst 4 (c.map locE) false, .agg (refE r)] (i64 (ixL c r)) := by
  refine ret_of_body (fn := Try.f37) (c := Try.f37.body.getD .skip) hm hT (by kernel_rfl) Try.func37 (by kernel_rfl) (by kernel_rfl) (by kernel_rfl) (by kernel_rfl) ?_
  repeat' ((conv => whnf); first | refine And.intro (fun h => h) ?_ | refine dcond_t (by assumption) ?_ | refine dcond_f (by assumption) ?_ | (refine dcond_intro ?_ ?_ <;> intro h) | exact .refl | refine And.intro (by kernel_rfl) ?_ | refine And.intro ⟨fun h => h, fun h => h⟩ ?_ | refine Exists.intro false ?_ | (refine And.intro ?_ ?_; focus (simp; done)) | fail)
  all_goals (conv => whnf)
  refine ⟨Nat, fun i => ⟨[(3, .lp 0 0), (7, .lst 4 (c.map locE) false), (8, i64 c.length), (9, i64 i)], [.cells 28 (refE r)]⟩, fun i => i ≤ c.length ∧ ∀ j (h : j < c.length), j < i → refEq (c[j].ref) r = false, fun i => c.length - i, [], ⟨0, ⟨Nat.zero_le _, by omega⟩, ?_⟩, ?_⟩
  · conv => whnf
    exact ⟨⟨.refl, .refl, dle_int (by simp), .refl, trivial⟩, ⟨.refl, trivial⟩, by rfl⟩
  · intro i ⟨hi, hall⟩
    repeat' ((conv => whnf); first | refine And.intro (fun h => h) ?_ | refine dcond_t (by assumption) ?_ | refine dcond_f (by assumption) ?_ | (refine dcond_intro ?_ ?_ <;> intro h) | exact .refl | refine And.intro (by kernel_rfl) ?_ | refine And.intro ⟨fun h => h, fun h => h⟩ ?_ | refine Exists.intro false ?_ | (refine And.intro ?_ ?_; focus (simp; done)) | fail)
    · have hlt : i < c.length := by simpa using h
      clear h
      have he : refEq c[i].ref r = (decide (c[i].ref.ty = r.ty) && (decide (c[i].ref.key = r.key) && true)) := rfl
      repeat' ((conv => whnf); first | refine And.intro (fun h => h) ?_ | refine dcond_t (by assumption) ?_ | refine dcond_f (by assumption) ?_ | (refine dcond_intro ?_ ?_ <;> intro h) | exact .refl | refine And.intro (by kernel_rfl) ?_ | refine And.intro ⟨fun h => h, fun h => h⟩ ?_ | refine ⟨_, _, And.intro ⟨rfl, get_map hlt⟩ ?_⟩ | refine Exists.intro false ?_ | (refine And.intro ?_ ?_; focus (simp; done)) | fail)
      all_goals (conv => whnf)
      · rw [ixL_some hlt (he.trans h) hall]
        exact .refl
      · refine ⟨i + 1, ⟨hlt, fun j hj hji => ?_⟩, by simp only []; omega, ?_⟩
        · rcases Nat.lt_succ_iff_lt_or_eq.1 hji with hji | rfl
          · exact hall j hj hji
          · exact he.trans h
        · conv => whnf
          exact ⟨⟨.refl, .refl, .refl, dle_int (wrap_succ (by omega)), trivial⟩, ⟨.refl, trivial⟩, by rfl⟩
    · have hge : ¬ i < c.length := by simpa using h
      rw [ixL_none (fun j hj => hall j hj (by omega))]
      conv => whnf
      exact .refl
theorem c_r15_Of (c : List Loc) (hl : c.length ≤ 1000000) (r : Ref) : Ret Try.prog 52 [.lst 4 (c.map locE) false, .agg (refE r)] (i64 (ixL c r)) := by
  refine ret_of_body (fn := Try.f52) (c := Try.f52.body.getD .skip) hm hT (by kernel_rfl) Try.func52 (by kernel_rfl) (by kernel_rfl) (by kernel_rfl) (by kernel_rfl) ?_
  repeat' ((conv => whnf); first | refine And.intro (fun h => h) ?_ | refine dcond_t (by assumption) ?_ | refine dcond_f (by assumption) ?_ | (refine dcond_intro ?_ ?_ <;> intro h) | exact .refl | refine And.intro (by kernel_rfl) ?_ | refine And.intro ⟨fun h => h, fun h => h⟩ ?_ | refine Exists.intro false ?_ | (refine And.intro ?_ ?_; focus (simp; done)) | fail)
  all_goals (conv => whnf)
  refine ⟨Nat, fun i => ⟨[(0, .lst 4 (c.map locE) false), (3, .lp 0 0), (5, i64 i)], [.cells 28 (refE r)]⟩, fun i => i ≤ c.length ∧ ∀ j (h : j < c.length), j < i → refEq (c[j].ref) r = false, fun i => c.length - i, [], ⟨0, ⟨Nat.zero_le _, by omega⟩, ?_⟩, ?_⟩
  · conv => whnf
    exact ⟨⟨.refl, .refl, .refl, trivial⟩, ⟨.refl, trivial⟩, by rfl⟩
  · intro i ⟨hi, hall⟩
    repeat' ((conv => whnf); first | refine And.intro (fun h => h) ?_ | refine dcond_t (by assumption) ?_ | refine dcond_f (by assumption) ?_ | (refine dcond_intro ?_ ?_ <;> intro h) | exact .refl | refine And.intro (by kernel_rfl) ?_ | refine And.intro ⟨fun h => h, fun h => h⟩ ?_ | refine Exists.intro false ?_ | (refine And.intro ?_ ?_; focus (simp; done)) | fail)
    · have hlt : i < c.length := by simpa using h
      clear h
      have he : refEq c[i].ref r = (decide (c[i].ref.ty = r.ty) && (decide (c[i].ref.key = r.key) && true)) := rfl
      repeat' ((conv => whnf); first | refine And.intro (fun h => h) ?_ | refine dcond_t (by assumption) ?_ | refine dcond_f (by assumption) ?_ | (refine dcond_intro ?_ ?_ <;> intro h) | exact .refl | refine And.intro (by kernel_rfl) ?_ | refine And.intro ⟨fun h => h, fun h => h⟩ ?_ | refine ⟨_, _, And.intro ⟨rfl, get_map hlt⟩ ?_⟩ | refine Exists.intro false ?_ | (refine And.intro ?_ ?_; focus (simp; done)) | fail)
      all_goals (conv => whnf)
      · rw [ixL_some hlt (he.trans h) hall]
        exact .refl
      · refine ⟨i + 1, ⟨hlt, fun j hj hji => ?_⟩, by simp only []; omega, ?_⟩
        · rcases Nat.lt_succ_iff_lt_or_eq.1 hji with hji | rfl
          · exact hall j hj hji
          · exact he.trans h
        · conv => whnf
          exact ⟨⟨.refl, .refl, dle_int (wrap_succ (by omega)), trivial⟩, ⟨.refl, trivial⟩, by rfl⟩
    · have hge : ¬ i < c.length := by simpa using h
      rw [ixL_none (fun j hj => hall j hj (by omega))]
      conv => whnf
      exact .refl
def okL (c : List Loc) (i : Nat) : Bool := entB (c.getD i loc0) && decide (ixL c (c.getD i loc0).ref = (i : Nat))
def valL (c : List Loc) : Bool := bif decide ((c.length : Int) > 16) then false else allB (okL c) c.length
theorem c_routing_Valid (c : List Loc) (hl : c.length ≤ 1000000) : Ret Try.prog 20 [.lst 4 (c.map locE) false] (.v (.bool (valL c))) := by
  have hd : valL c = bif decide ((c.length : Int) > 16) then false else allB (okL c) c.length := rfl
  generalize valL c = res at *
  refine ret_of_body (fn := Try.f20) (c := Try.f20.body.getD .skip) hm hT (by kernel_rfl) Try.func20 (by kernel_rfl) (by kernel_rfl) (by kernel_rfl) (by kernel_rfl) ?_
  repeat' ((conv => whnf); first | refine And.intro (fun h => h) ?_ | refine dcond_t (by assumption) ?_ | refine dcond_f (by assumption) ?_ | (refine dcond_intro ?_ ?_ <;> intro h) | exact .refl | refine And.intro (by kernel_rfl) ?_ | refine And.intro ⟨fun h => h, fun h => h⟩ ?_ | refine Exists.intro false ?_ | (refine And.intro ?_ ?_; focus (simp; done)) | fail)
  all_goals (conv => whnf)
  · rw [List.length_map] at h
    rw [hd, h]
    exact .refl
  · rw [List.length_map] at h
    rw [h, cond_false] at hd
    clear h
    subst hd
    refine ⟨Nat, fun i => ⟨[(0, .lst 4 (c.map locE) false), (8, .lst 4 (c.map locE) false), (9, i64 c.length), (10, i64 i)], []⟩, fun i => i ≤ c.length ∧ ∀ j, j < i → okL c j = true, fun i => c.length - i, [], ⟨0, ⟨Nat.zero_le _, by omega⟩, ?_⟩, ?_⟩
    · conv => whnf
      exact ⟨⟨.refl, .refl, dle_int (by simp), .refl, trivial⟩, trivial, by rfl⟩
    · intro i ⟨hi, hall⟩
      repeat' ((conv => whnf); first | refine And.intro (fun h => h) ?_ | refine dcond_t (by assumption) ?_ | refine dcond_f (by assumption) ?_ | (refine dcond_intro ?_ ?_ <;> intro h) | exact .refl | refine And.intro (by kernel_rfl) ?_ | refine And.intro ⟨fun h => h, fun h => h⟩ ?_ | refine Exists.intro false ?_ | (refine And.intro ?_ ?_; focus (simp; done)) | fail)
      · have hlt : i < c.length := by simpa using h
        clear h
        have hg : c.getD i loc0 = c[i] := by simp [hlt]
        have hok : okL c i = (entB c[i] && decide (ixL c c[i].ref = (i : Nat))) := by
          unfold okL
          rw [hg]
        have e4 := c_validEntry c[i]
        have e5 := c_routing_index c hl c[i].ref
        generalize entB c[i] = va at *
        generalize ixL c c[i].ref = ix at *
        repeat' ((conv => whnf); first | refine And.intro (fun h => h) ?_ | refine dcond_t (by assumption) ?_ | refine dcond_f (by assumption) ?_ | (refine dcond_intro ?_ ?_ <;> intro h) | exact .refl | refine And.intro (by kernel_rfl) ?_ | refine And.intro ⟨fun h => h, fun h => h⟩ ?_ | refine ⟨_, _, And.intro ⟨rfl, get_map hlt⟩ ?_⟩ | refine .inl ⟨_, _, DleAll_refl _, e4, ?_⟩ | refine ⟨_, _, DleAll_refl _, fun _ => e4, ?_⟩ | refine ⟨_, _, DleAll_refl _, e4, ?_⟩ | refine .inl ⟨_, _, DleAll_refl _, e5, ?_⟩ | refine ⟨_, _, DleAll_refl _, fun _ => e5, ?_⟩ | refine ⟨_, _, DleAll_refl _, e5, ?_⟩ | refine Exists.intro false ?_ | (refine And.intro ?_ ?_; focus (simp; done)) | fail)
        all_goals (conv => whnf)
        · have hb : okL c i = !(!va || !decide (ix = (i : Nat))) := by
            rw [hok, Bool.not_or, Bool.not_not, Bool.not_not]
          rw [allB_false hlt (by rw [hb, h]; rfl)]
          exact .refl
        · have hb : okL c i = !(!va || !decide (ix = (i : Nat))) := by
            rw [hok, Bool.not_or, Bool.not_not, Bool.not_not]
          refine ⟨i + 1, ⟨hlt, fun j hj => ?_⟩, by simp only []; omega, ?_⟩
          · rcases Nat.lt_succ_iff_lt_or_eq.1 hj with hj | rfl
            · exact hall j hj
            · rw [hb, h]
              rfl
          · conv => whnf
            exact ⟨⟨.refl, .refl, .refl, dle_int (wrap_succ (by omega)), trivial⟩, trivial, by rfl⟩
      · have hge : ¬ i < c.length := by simpa using h
        conv => whnf
        refine dle_bool ?_
        rw [allB_true.2 (fun j hj => hall j (by omega))]
def lookR (c : List Loc) (r : Ref) : Int × Bool := bif !valL c || decide (ixL c r < 0) then (0, false) else ((c.getD (ixL c r).toNat loc0).mem, true)
theorem ixL_lt (c : List Loc) (r : Ref) : ixL c r < (c.length : Int) := by
  unfold ixL
  cases h : idL c r with
  | none => simp only []; omega
  | some i =>
    have := (List.findIdx?_eq_some_iff_getElem.1 h).1
    simp only []
    omega
theorem c_routing_Lookup (c : List Loc) (hl : c.length ≤ 1000000) (r : Ref) : Ret Try.prog 19 [.lst 4 (c.map locE) false, .agg (refE r)] (.tup [i64 (lookR c r).1, .v (.bool (lookR c r).2)]) := by
  have e1 := c_routing_index c hl r
  have e2 := c_routing_Valid c hl
  have hlt := ixL_lt c r
  have hd : lookR c r = bif !valL c || decide (ixL c r < 0) then (0, false) else ((c.getD (ixL c r).toNat loc0).mem, true) := rfl
  generalize lookR c r = res at *
  generalize valL c = vl at *
  generalize ixL c r = ix at *
  have hix : (!vl || decide (ix < 0)) = false → ix = ((ix.toNat : Nat) : Int) ∧ (c.map locE)[ix.toNat]? = some (locE (c.getD ix.toNat loc0)) := fun h => by
    rw [Bool.or_eq_false_iff, decide_eq_false_iff_not] at h
    have : ix.toNat < c.length := by omega
    refine ⟨by omega, by simp [this]⟩
  refine ret_of_body (fn := Try.f19) (c := Try.f19.body.getD .skip) hm hT (by kernel_rfl) Try.func19 (by kernel_rfl) (by kernel_rfl) (by kernel_rfl) (by kernel_rfl) ?_
  repeat' ((conv => whnf); first | refine And.intro (fun h => h) ?_ | refine dcond_t (by assumption) ?_ | refine dcond_f (by assumption) ?_ | (refine dcond_intro ?_ ?_ <;> intro h) | exact .refl | refine And.intro (by kernel_rfl) ?_ | refine And.intro ⟨fun h => h, fun h => h⟩ ?_ | refine .inl ⟨_, _, DleAll_refl _, e1, ?_⟩ | refine ⟨_, _, DleAll_refl _, fun _ => e1, ?_⟩ | refine ⟨_, _, DleAll_refl _, e1, ?_⟩ | refine .inl ⟨_, _, DleAll_refl _, e2, ?_⟩ | refine ⟨_, _, DleAll_refl _, fun _ => e2, ?_⟩ | refine ⟨_, _, DleAll_refl _, e2, ?_⟩ | refine Exists.intro false ?_ | (refine And.intro ?_ ?_; focus (simp; done)) | fail)
  all_goals (conv => whnf)
  · rw [hd, h]
    exact .refl
  · rw [hd, h]
    have hix := hix h
    clear h
    repeat' ((conv => whnf); first | refine And.intro (fun h => h) ?_ | refine dcond_t (by assumption) ?_ | refine dcond_f (by assumption) ?_ | (refine dcond_intro ?_ ?_ <;> intro h) | exact .refl | refine And.intro (by kernel_rfl) ?_ | refine And.intro ⟨fun h => h, fun h => h⟩ ?_ | refine ⟨ix.toNat, locE (c.getD ix.toNat loc0), And.intro hix ?_⟩ | refine Exists.intro false ?_ | (refine And.intro ?_ ?_; focus (simp; done)) | fail)
theorem c_keep_Learn (c : List Loc) (hl : c.length ≤ 1000000) (q : Loc) (p : Loc → Bool) (hp : ∀ e, Ret Try.prog 40 [.agg (locE e), .ip (locE q)] (.v (.bool (p e)))) : Ret Try.prog 39 [.lst 4 (c.map locE) false, .fn (.func 40) [.ip (locE q)]] (.lst 4 ((c.filter p).map locE) false) := by
  refine ret_of_body (fn := Try.f39) (c := Try.f39.body.getD .skip) hm hT (by kernel_rfl) Try.func39 (by kernel_rfl) (by kernel_rfl) (by kernel_rfl) (by kernel_rfl) ?_
  repeat' ((conv => whnf); first | refine And.intro (fun h => h) ?_ | refine dcond_t (by assumption) ?_ | refine dcond_f (by assumption) ?_ | (refine dcond_intro ?_ ?_ <;> intro h) | exact .refl | refine And.intro (by kernel_rfl) ?_ | refine And.intro ⟨fun h => h, fun h => h⟩ ?_ | refine Exists.intro false ?_ | (refine And.intro ?_ ?_; focus (simp; done)) | fail)
  all_goals (conv => whnf)
  refine ⟨Nat, fun i => ⟨[(1, .fn (.func 40) [.ip (locE q)]), (5, .own 0), (8, .lst 4 (c.map locE) false), (9, i64 c.length), (10, i64 i)], [.row 48 4 (((c.take i).filter p).map locE)]⟩, fun i => i ≤ c.length, fun i => c.length - i, [.slot 5 48 4], ⟨0, Nat.zero_le _, ?_⟩, ?_⟩
  · conv => whnf
    exact ⟨⟨.refl, .refl, .refl, dle_int (by simp), .refl, trivial⟩, ⟨.refl, trivial⟩, by rfl⟩
  · intro i hi
    repeat' ((conv => whnf); first | refine And.intro (fun h => h) ?_ | refine dcond_t (by assumption) ?_ | refine dcond_f (by assumption) ?_ | (refine dcond_intro ?_ ?_ <;> intro h) | exact .refl | refine And.intro (by kernel_rfl) ?_ | refine And.intro ⟨fun h => h, fun h => h⟩ ?_ | refine Exists.intro false ?_ | (refine And.intro ?_ ?_; focus (simp; done)) | fail)
    · have hlt : i < c.length := by simpa using h
      clear h
      have hs : (c.take (i + 1)).filter p = (c.take i).filter p ++ bif p c[i] then [c[i]] else [] := by
        rw [List.take_succ_eq_append_getElem hlt, List.filter_append]
        cases hb : p c[i] <;> simp [hb]
      have hfl : ((c.take i).filter p).length ≤ i := Nat.le_trans (List.length_filter_le ..) (by simp; omega)
      have e := hp c[i]
      generalize (c.take i).filter p = N0 at *
      generalize p c[i] = pb at *
      repeat' ((conv => whnf); first | refine And.intro (fun h => h) ?_ | refine dcond_t (by assumption) ?_ | refine dcond_f (by assumption) ?_ | (refine dcond_intro ?_ ?_ <;> intro h) | exact .refl | refine And.intro (by kernel_rfl) ?_ | refine And.intro ⟨fun h => h, fun h => h⟩ ?_ | refine ⟨_, _, And.intro ⟨rfl, get_map hlt⟩ ?_⟩ | refine .inl ⟨_, _, DleAll_refl _, e, ?_⟩ | refine ⟨_, _, DleAll_refl _, fun _ => e, ?_⟩ | refine ⟨_, _, DleAll_refl _, e, ?_⟩ | refine And.intro (fitsL (by simp <;> omega)) ?_ | refine Exists.intro false ?_ | (refine And.intro ?_ ?_; focus (simp; done)) | fail)
      all_goals (conv => whnf)
      all_goals refine ⟨i + 1, hlt, by simp only []; omega, ?_⟩
      all_goals (conv => whnf)
      all_goals refine ⟨⟨.refl, .refl, .refl, .refl, dle_int (wrap_succ (by omega)), trivial⟩, ⟨ole_row ?_, trivial⟩, by rfl⟩
      · rw [hs, h, cond_true, List.map_append]
        rfl
      · rw [hs, h, cond_false, List.append_nil]
    · have : i = c.length := by
        simp at h
        omega
      subst this
      rw [List.take_length]
      repeat' ((conv => whnf); first | refine And.intro (fun h => h) ?_ | refine dcond_t (by assumption) ?_ | refine dcond_f (by assumption) ?_ | (refine dcond_intro ?_ ?_ <;> intro h) | exact .refl | refine And.intro (by kernel_rfl) ?_ | refine And.intro ⟨fun h => h, fun h => h⟩ ?_ | refine Exists.intro false ?_ | (refine And.intro ?_ ?_; focus (simp; done)) | fail)
theorem c_keep_Forget (c : List Loc) (hl : c.length ≤ 1000000) (a : Ref) (m : Int) (p : Loc → Bool) (hp : ∀ e, Ret Try.prog 41 [.agg (locE e), .ip (refE a), .ip [i64 m]] (.v (.bool (p e)))) : Ret Try.prog 39 [.lst 4 (c.map locE) false, .fn (.func 41) [.ip (refE a), .ip [i64 m]]] (.lst 4 ((c.filter p).map locE) false) := by
  refine ret_of_body (fn := Try.f39) (c := Try.f39.body.getD .skip) hm hT (by kernel_rfl) Try.func39 (by kernel_rfl) (by kernel_rfl) (by kernel_rfl) (by kernel_rfl) ?_
  repeat' ((conv => whnf); first | refine And.intro (fun h => h) ?_ | refine dcond_t (by assumption) ?_ | refine dcond_f (by assumption) ?_ | (refine dcond_intro ?_ ?_ <;> intro h) | exact .refl | refine And.intro (by kernel_rfl) ?_ | refine And.intro ⟨fun h => h, fun h => h⟩ ?_ | refine Exists.intro false ?_ | (refine And.intro ?_ ?_; focus (simp; done)) | fail)
  all_goals (conv => whnf)
  refine ⟨Nat, fun i => ⟨[(1, .fn (.func 41) [.ip (refE a), .ip [i64 m]]), (5, .own 0), (8, .lst 4 (c.map locE) false), (9, i64 c.length), (10, i64 i)], [.row 48 4 (((c.take i).filter p).map locE)]⟩, fun i => i ≤ c.length, fun i => c.length - i, [.slot 5 48 4], ⟨0, Nat.zero_le _, ?_⟩, ?_⟩
  · conv => whnf
    exact ⟨⟨.refl, .refl, .refl, dle_int (by simp), .refl, trivial⟩, ⟨.refl, trivial⟩, by rfl⟩
  · intro i hi
    repeat' ((conv => whnf); first | refine And.intro (fun h => h) ?_ | refine dcond_t (by assumption) ?_ | refine dcond_f (by assumption) ?_ | (refine dcond_intro ?_ ?_ <;> intro h) | exact .refl | refine And.intro (by kernel_rfl) ?_ | refine And.intro ⟨fun h => h, fun h => h⟩ ?_ | refine Exists.intro false ?_ | (refine And.intro ?_ ?_; focus (simp; done)) | fail)
    · have hlt : i < c.length := by simpa using h
      clear h
      have hs : (c.take (i + 1)).filter p = (c.take i).filter p ++ bif p c[i] then [c[i]] else [] := by
        rw [List.take_succ_eq_append_getElem hlt, List.filter_append]
        cases hb : p c[i] <;> simp [hb]
      have hfl : ((c.take i).filter p).length ≤ i := Nat.le_trans (List.length_filter_le ..) (by simp; omega)
      have e := hp c[i]
      generalize (c.take i).filter p = N0 at *
      generalize p c[i] = pb at *
      repeat' ((conv => whnf); first | refine And.intro (fun h => h) ?_ | refine dcond_t (by assumption) ?_ | refine dcond_f (by assumption) ?_ | (refine dcond_intro ?_ ?_ <;> intro h) | exact .refl | refine And.intro (by kernel_rfl) ?_ | refine And.intro ⟨fun h => h, fun h => h⟩ ?_ | refine ⟨_, _, And.intro ⟨rfl, get_map hlt⟩ ?_⟩ | refine .inl ⟨_, _, DleAll_refl _, e, ?_⟩ | refine ⟨_, _, DleAll_refl _, fun _ => e, ?_⟩ | refine ⟨_, _, DleAll_refl _, e, ?_⟩ | refine And.intro (fitsL (by simp <;> omega)) ?_ | refine Exists.intro false ?_ | (refine And.intro ?_ ?_; focus (simp; done)) | fail)
      all_goals (conv => whnf)
      all_goals refine ⟨i + 1, hlt, by simp only []; omega, ?_⟩
      all_goals (conv => whnf)
      all_goals refine ⟨⟨.refl, .refl, .refl, .refl, dle_int (wrap_succ (by omega)), trivial⟩, ⟨ole_row ?_, trivial⟩, by rfl⟩
      · rw [hs, h, cond_true, List.map_append]
        rfl
      · rw [hs, h, cond_false, List.append_nil]
    · have : i = c.length := by
        simp at h
        omega
      subst this
      rw [List.take_length]
      repeat' ((conv => whnf); first | refine And.intro (fun h => h) ?_ | refine dcond_t (by assumption) ?_ | refine dcond_f (by assumption) ?_ | (refine dcond_intro ?_ ?_ <;> intro h) | exact .refl | refine And.intro (by kernel_rfl) ?_ | refine And.intro ⟨fun h => h, fun h => h⟩ ?_ | refine Exists.intro false ?_ | (refine And.intro ?_ ?_; focus (simp; done)) | fail)
theorem c_keep_Prune (c : List Loc) (hl : c.length ≤ 1000000) (v : View) (p : Loc → Bool) (hp : ∀ e, Ret Try.prog 42 [.agg (locE e), .ip (viewE v)] (.v (.bool (p e)))) : Ret Try.prog 39 [.lst 4 (c.map locE) false, .fn (.func 42) [.ip (viewE v)]] (.lst 4 ((c.filter p).map locE) false) := by
  refine ret_of_body (fn := Try.f39) (c := Try.f39.body.getD .skip) hm hT (by kernel_rfl) Try.func39 (by kernel_rfl) (by kernel_rfl) (by kernel_rfl) (by kernel_rfl) ?_
  repeat' ((conv => whnf); first | refine And.intro (fun h => h) ?_ | refine dcond_t (by assumption) ?_ | refine dcond_f (by assumption) ?_ | (refine dcond_intro ?_ ?_ <;> intro h) | exact .refl | refine And.intro (by kernel_rfl) ?_ | refine And.intro ⟨fun h => h, fun h => h⟩ ?_ | refine Exists.intro false ?_ | (refine And.intro ?_ ?_; focus (simp; done)) | fail)
  all_goals (conv => whnf)
  refine ⟨Nat, fun i => ⟨[(1, .fn (.func 42) [.ip (viewE v)]), (5, .own 0), (8, .lst 4 (c.map locE) false), (9, i64 c.length), (10, i64 i)], [.row 48 4 (((c.take i).filter p).map locE)]⟩, fun i => i ≤ c.length, fun i => c.length - i, [.slot 5 48 4], ⟨0, Nat.zero_le _, ?_⟩, ?_⟩
  · conv => whnf
    exact ⟨⟨.refl, .refl, .refl, dle_int (by simp), .refl, trivial⟩, ⟨.refl, trivial⟩, by rfl⟩
  · intro i hi
    repeat' ((conv => whnf); first | refine And.intro (fun h => h) ?_ | refine dcond_t (by assumption) ?_ | refine dcond_f (by assumption) ?_ | (refine dcond_intro ?_ ?_ <;> intro h) | exact .refl | refine And.intro (by kernel_rfl) ?_ | refine And.intro ⟨fun h => h, fun h => h⟩ ?_ | refine Exists.intro false ?_ | (refine And.intro ?_ ?_; focus (simp; done)) | fail)
    · have hlt : i < c.length := by simpa using h
      clear h
      have hs : (c.take (i + 1)).filter p = (c.take i).filter p ++ bif p c[i] then [c[i]] else [] := by
        rw [List.take_succ_eq_append_getElem hlt, List.filter_append]
        cases hb : p c[i] <;> simp [hb]
      have hfl : ((c.take i).filter p).length ≤ i := Nat.le_trans (List.length_filter_le ..) (by simp; omega)
      have e := hp c[i]
      generalize (c.take i).filter p = N0 at *
      generalize p c[i] = pb at *
      repeat' ((conv => whnf); first | refine And.intro (fun h => h) ?_ | refine dcond_t (by assumption) ?_ | refine dcond_f (by assumption) ?_ | (refine dcond_intro ?_ ?_ <;> intro h) | exact .refl | refine And.intro (by kernel_rfl) ?_ | refine And.intro ⟨fun h => h, fun h => h⟩ ?_ | refine ⟨_, _, And.intro ⟨rfl, get_map hlt⟩ ?_⟩ | refine .inl ⟨_, _, DleAll_refl _, e, ?_⟩ | refine ⟨_, _, DleAll_refl _, fun _ => e, ?_⟩ | refine ⟨_, _, DleAll_refl _, e, ?_⟩ | refine And.intro (fitsL (by simp <;> omega)) ?_ | refine Exists.intro false ?_ | (refine And.intro ?_ ?_; focus (simp; done)) | fail)
      all_goals (conv => whnf)
      all_goals refine ⟨i + 1, hlt, by simp only []; omega, ?_⟩
      all_goals (conv => whnf)
      all_goals refine ⟨⟨.refl, .refl, .refl, .refl, dle_int (wrap_succ (by omega)), trivial⟩, ⟨ole_row ?_, trivial⟩, by rfl⟩
      · rw [hs, h, cond_true, List.map_append]
        rfl
      · rw [hs, h, cond_false, List.append_nil]
    · have : i = c.length := by
        simp at h
        omega
      subst this
      rw [List.take_length]
      repeat' ((conv => whnf); first | refine And.intro (fun h => h) ?_ | refine dcond_t (by assumption) ?_ | refine dcond_f (by assumption) ?_ | (refine dcond_intro ?_ ?_ <;> intro h) | exact .refl | refine And.intro (by kernel_rfl) ?_ | refine And.intro ⟨fun h => h, fun h => h⟩ ?_ | refine Exists.intro false ?_ | (refine And.intro ?_ ?_; focus (simp; done)) | fail)
end Go.Proofs.Ythcclghmeighlaa

set_option linter.unusedSimpArgs false
set_option linter.unusedVariables false
set_option maxRecDepth 100000
namespace Go.Proofs.Ythcclghmeighlaa
open Go.Lift
/-! routing, second part; references 14 and 15 -/
def lrnP (q e : Loc) : Bool := !(decide (e.ref.ty = q.ref.ty) && (decide (e.ref.key = q.ref.key) && true))
def frgP (a : Ref) (m : Int) (e : Loc) : Bool := !(decide (e.ref.ty = a.ty) && (decide (e.ref.key = a.key) && true)) || !decide (e.mem = m)
def prnP (v : View) (e : Loc) : Bool := inB v.mem e.mem
theorem c_Learn_1 (q e : Loc) : Ret Try.prog 40 [.agg (locE e), .ip (locE q)] (.v (.bool (lrnP q e))) := by
  refine ret_of_body (fn := Try.f40) (c := Try.f40.body.getD .skip) hm hT (by kernel_rfl) Try.func40 (by kernel_rfl) (by kernel_rfl) (by kernel_rfl) (by kernel_rfl) ?_
  repeat' ((conv => whnf); first | refine And.intro (fun h => h) ?_ | refine dcond_t (by assumption) ?_ | refine dcond_f (by assumption) ?_ | (refine dcond_intro ?_ ?_ <;> intro h) | exact .refl | refine And.intro (by kernel_rfl) ?_ | refine And.intro ⟨fun h => h, fun h => h⟩ ?_ | refine Exists.intro false ?_ | (refine And.intro ?_ ?_; focus (simp; done)) | fail)
theorem c_Forget_1 (a : Ref) (m : Int) (e : Loc) : Ret Try.prog 41 [.agg (locE e), .ip (refE a), .ip [i64 m]] (.v (.bool (frgP a m e))) := by
  refine ret_of_body (fn := Try.f41) (c := Try.f41.body.getD .skip) hm hT (by kernel_rfl) Try.func41 (by kernel_rfl) (by kernel_rfl) (by kernel_rfl) (by kernel_rfl) ?_
  repeat' ((conv => whnf); first | refine And.intro (fun h => h) ?_ | refine dcond_t (by assumption) ?_ | refine dcond_f (by assumption) ?_ | (refine dcond_intro ?_ ?_ <;> intro h) | exact .refl | refine And.intro (by kernel_rfl) ?_ | refine And.intro ⟨fun h => h, fun h => h⟩ ?_ | refine Exists.intro false ?_ | (refine And.intro ?_ ?_; focus (simp; done)) | fail)
theorem c_Prune_1 (v : View) (hv : v.mem.length ≤ maxLen) (e : Loc) : Ret Try.prog 42 [.agg (locE e), .ip (viewE v)] (.v (.bool (prnP v e))) := by
  have e1 := c_view_Contains v.mem hv e.mem
  refine ret_of_body (fn := Try.f42) (c := Try.f42.body.getD .skip) hm hT (by kernel_rfl) Try.func42 (by kernel_rfl) (by kernel_rfl) (by kernel_rfl) (by kernel_rfl) ?_
  repeat' ((conv => whnf); first | refine And.intro (fun h => h) ?_ | refine dcond_t (by assumption) ?_ | refine dcond_f (by assumption) ?_ | (refine dcond_intro ?_ ?_ <;> intro h) | exact .refl | refine And.intro (by kernel_rfl) ?_ | refine And.intro ⟨fun h => h, fun h => h⟩ ?_ | refine .inl ⟨_, _, DleAll_refl _, e1, ?_⟩ | refine ⟨_, _, DleAll_refl _, fun _ => e1, ?_⟩ | refine ⟨_, _, DleAll_refl _, e1, ?_⟩ | refine Exists.intro false ?_ | (refine And.intro ?_ ?_; focus (simp; done)) | fail)
def learnR (c : List Loc) (e : Loc) : List Loc := bif !valL c then [] else bif !entB e || (decide (ixL c e.ref ≥ 0) && decide ((c.getD (ixL c e.ref).toNat loc0).ep > e.ep)) then c else e :: (c.filter (lrnP e)).take 15
theorem c_Learn (c : List Loc) (hl : c.length ≤ 1000000) (e : Loc) : Ret Try.prog 18 [.lst 4 (c.map locE) false, .agg (locE e)] (.lst 4 ((learnR c e).map locE) false) := by
  have e1 := c_routing_Valid c hl
  have e2 := c_routing_index c hl e.ref
  have e3 := c_validEntry e
  have e4 := c_keep_Learn c hl e (lrnP e) (c_Learn_1 e)
  have hlt := ixL_lt c e.ref
  have hfl : (c.filter (lrnP e)).length ≤ c.length := List.length_filter_le ..
  have hd : learnR c e = bif !valL c then [] else bif !entB e || (decide (ixL c e.ref ≥ 0) && decide ((c.getD (ixL c e.ref).toNat loc0).ep > e.ep)) then c else e :: (c.filter (lrnP e)).take 15 := rfl
  generalize learnR c e = res at *
  generalize valL c = vl at *
  generalize entB e = en at *
  generalize c.filter (lrnP e) = F at *
  generalize ixL c e.ref = ix at *
  have hix : ∀ b : Bool, (b && decide (ix ≥ 0)) = true → ix = ((ix.toNat : Nat) : Int) ∧ (c.map locE)[ix.toNat]? = some (locE (c.getD ix.toNat loc0)) := fun b h => by
    rw [Bool.and_eq_true, decide_eq_true_eq] at h
    have : ix.toNat < c.length := by omega
    refine ⟨by omega, by simp [this]⟩
  generalize c.getD ix.toNat loc0 = cx at *
  have hmin : (F.map locE).length = F.length := List.length_map ..
  refine ret_of_body (fn := Try.f18) (c := Try.f18.body.getD .skip) hm hT (by kernel_rfl) Try.func18 (by kernel_rfl) (by kernel_rfl) (by kernel_rfl) (by kernel_rfl) ?_
  repeat' ((conv => whnf); first | refine And.intro (fun h => h) ?_ | refine dcond_t (by assumption) ?_ | refine dcond_f (by assumption) ?_ | (refine dcond_intro ?_ ?_ <;> intro h) | exact .refl | refine And.intro (by kernel_rfl) ?_ | refine And.intro ⟨fun h => h, fun h => h⟩ ?_ | refine .inl ⟨_, _, DleAll_refl _, e1, ?_⟩ | refine ⟨_, _, DleAll_refl _, fun _ => e1, ?_⟩ | refine ⟨_, _, DleAll_refl _, e1, ?_⟩ | refine .inl ⟨_, _, DleAll_refl _, e2, ?_⟩ | refine ⟨_, _, DleAll_refl _, fun _ => e2, ?_⟩ | refine ⟨_, _, DleAll_refl _, e2, ?_⟩ | refine .inl ⟨_, _, DleAll_refl _, e3, ?_⟩ | refine ⟨_, _, DleAll_refl _, fun _ => e3, ?_⟩ | refine ⟨_, _, DleAll_refl _, e3, ?_⟩ | refine .inl ⟨_, _, DleAll_refl _, e4, ?_⟩ | refine ⟨_, _, DleAll_refl _, fun _ => e4, ?_⟩ | refine ⟨_, _, DleAll_refl _, e4, ?_⟩ | refine ⟨ix.toNat, locE cx, And.intro ⟨⟨fun h => h, fun h => h⟩, fun h => hix _ h⟩ ?_⟩ | refine Exists.intro false ?_ | (refine And.intro ?_ ?_; focus (simp; done)) | fail)
  all_goals (conv => whnf)
  · rw [hd, h]
    exact .nl
  · rename_i h0
    rw [hd, h0]
    rw [show (!en || decide (ix ≥ 0) && decide (cx.ep > e.ep)) = true from h]
    clear h h0 hix
    repeat' ((conv => whnf); first | refine And.intro (fun h => h) ?_ | refine dcond_t (by assumption) ?_ | refine dcond_f (by assumption) ?_ | (refine dcond_intro ?_ ?_ <;> intro h) | exact .refl | refine And.intro (by kernel_rfl) ?_ | refine And.intro ⟨fun h => h, fun h => h⟩ ?_ | refine ⟨0, 0, And.intro ⟨rfl, ⟨_, rfl⟩, ⟨_, rfl⟩, Nat.zero_le _, Nat.zero_le _⟩ ?_⟩ | refine And.intro (fitsL (by simp <;> omega)) ?_ | refine Exists.intro false ?_ | (refine And.intro ?_ ?_; focus (simp; done)) | fail)
    all_goals (conv => whnf)
  · rename_i h0
    rw [hd, h0]
    rw [show (!en || decide (ix ≥ 0) && decide (cx.ep > e.ep)) = false from h]
    clear h h0 hix
    have hm15 : (if (15 : Int) < ((F.map locE).length : Int) then (15 : Int) else ((F.map locE).length : Int)) = ((min F.length 15 : Nat) : Int) := by
      rw [List.length_map]
      split <;> omega
    have hk : min F.length 15 ≤ (F.map locE).length := by
      rw [List.length_map]
      omega
    repeat' ((conv => whnf); first | refine And.intro (fun h => h) ?_ | refine dcond_t (by assumption) ?_ | refine dcond_f (by assumption) ?_ | (refine dcond_intro ?_ ?_ <;> intro h) | exact .refl | refine And.intro (by kernel_rfl) ?_ | refine And.intro ⟨fun h => h, fun h => h⟩ ?_ | refine .inl ⟨_, _, DleAll_refl _, e4, ?_⟩ | refine ⟨_, _, DleAll_refl _, fun _ => e4, ?_⟩ | refine ⟨_, _, DleAll_refl _, e4, ?_⟩ | refine ⟨0, min F.length 15, And.intro ⟨rfl, ⟨_, congrArg (fun x => DV.v (Value.int .i64 x)) hm15⟩, Nat.zero_le _, hk⟩ ?_⟩ | refine And.intro (fitsL (by simp <;> omega)) ?_ | refine .inr ?_ | refine Exists.intro false ?_ | (refine And.intro ?_ ?_; focus (simp; done)) | fail)
    all_goals (conv => whnf)
    refine dle_lst ?_
    have hmt : F.take (min F.length 15) = F.take 15 := by
      rw [Nat.min_def]
      split
      · rw [List.take_of_length_le (Nat.le_refl _), List.take_of_length_le (by omega)]
      · rfl
    rw [List.drop_zero, ← List.map_take, hmt]
    rfl
def forgetR (c : List Loc) (a : Ref) (m : Int) : List Loc := bif !valL c then [] else c.filter (frgP a m)
theorem c_Forget (c : List Loc) (hl : c.length ≤ 1000000) (a : Ref) (m : Int) : Ret Try.prog 22 [.lst 4 (c.map locE) false, .agg (refE a), i64 m] (.lst 4 ((forgetR c a m).map locE) false) := by
  have e1 := c_routing_Valid c hl
  have e4 := c_keep_Forget c hl a m (frgP a m) (c_Forget_1 a m)
  unfold forgetR
  generalize c.filter (frgP a m) = F at *
  generalize valL c = vl at *
  refine ret_of_body (fn := Try.f22) (c := Try.f22.body.getD .skip) hm hT (by kernel_rfl) Try.func22 (by kernel_rfl) (by kernel_rfl) (by kernel_rfl) (by kernel_rfl) ?_
  repeat' ((conv => whnf); first | refine And.intro (fun h => h) ?_ | refine dcond_t (by assumption) ?_ | refine dcond_f (by assumption) ?_ | (refine dcond_intro ?_ ?_ <;> intro h) | exact .refl | refine And.intro (by kernel_rfl) ?_ | refine And.intro ⟨fun h => h, fun h => h⟩ ?_ | refine .inl ⟨_, _, DleAll_refl _, e1, ?_⟩ | refine ⟨_, _, DleAll_refl _, fun _ => e1, ?_⟩ | refine ⟨_, _, DleAll_refl _, e1, ?_⟩ | refine .inl ⟨_, _, DleAll_refl _, e4, ?_⟩ | refine ⟨_, _, DleAll_refl _, fun _ => e4, ?_⟩ | refine ⟨_, _, DleAll_refl _, e4, ?_⟩ | refine Exists.intro false ?_ | (refine And.intro ?_ ?_; focus (simp; done)) | fail)
  all_goals (conv => whnf)
  · rw [h]
    exact .nl
  · rw [h]
    exact .refl
def pruneR (c : List Loc) (v : View) : List Loc := bif !valL c || !viewB v then [] else c.filter (prnP v)
theorem c_Prune (c : List Loc) (hl : c.length ≤ 1000000) (v : View) (hv : v.mem.length ≤ maxLen) : Ret Try.prog 23 [.lst 4 (c.map locE) false, .agg (viewE v)] (.lst 4 ((pruneR c v).map locE) false) := by
  have e1 := c_routing_Valid c hl
  have e2 := c_view_Valid v hv
  have e4 := c_keep_Prune c hl v (prnP v) (c_Prune_1 v hv)
  unfold pruneR
  generalize c.filter (prnP v) = F at *
  generalize valL c = vl at *
  generalize viewB v = vb at *
  refine ret_of_body (fn := Try.f23) (c := Try.f23.body.getD .skip) hm hT (by kernel_rfl) Try.func23 (by kernel_rfl) (by kernel_rfl) (by kernel_rfl) (by kernel_rfl) ?_
  repeat' ((conv => whnf); first | refine And.intro (fun h => h) ?_ | refine dcond_t (by assumption) ?_ | refine dcond_f (by assumption) ?_ | (refine dcond_intro ?_ ?_ <;> intro h) | exact .refl | refine And.intro (by kernel_rfl) ?_ | refine And.intro ⟨fun h => h, fun h => h⟩ ?_ | refine .inl ⟨_, _, DleAll_refl _, e1, ?_⟩ | refine ⟨_, _, DleAll_refl _, fun _ => e1, ?_⟩ | refine ⟨_, _, DleAll_refl _, e1, ?_⟩ | refine .inl ⟨_, _, DleAll_refl _, e2, ?_⟩ | refine ⟨_, _, DleAll_refl _, fun _ => e2, ?_⟩ | refine ⟨_, _, DleAll_refl _, e2, ?_⟩ | refine .inl ⟨_, _, DleAll_refl _, e4, ?_⟩ | refine ⟨_, _, DleAll_refl _, fun _ => e4, ?_⟩ | refine ⟨_, _, DleAll_refl _, e4, ?_⟩ | refine Exists.intro false ?_ | (refine And.intro ?_ ?_; focus (simp; done)) | fail)
  all_goals (conv => whnf)
  · rw [h]
    exact .nl
  · rw [h]
    exact .refl
theorem c_r14_ValidRef (r : Ref) : Ret Try.prog 13 [.agg (refE r)] (.v (.bool (refB r))) := by
  refine ret_of_body (fn := Try.f13) (c := Try.f13.body.getD .skip) hm hT (by kernel_rfl) Try.func13 (by kernel_rfl) (by kernel_rfl) (by kernel_rfl) (by kernel_rfl) ?_
  repeat' ((conv => whnf); first | refine And.intro (fun h => h) ?_ | refine dcond_t (by assumption) ?_ | refine dcond_f (by assumption) ?_ | (refine dcond_intro ?_ ?_ <;> intro h) | exact .refl | refine And.intro (by kernel_rfl) ?_ | refine And.intro ⟨fun h => h, fun h => h⟩ ?_ | refine Exists.intro false ?_ | (refine And.intro ?_ ?_; focus (simp; done)) | fail)
theorem c_r14_Less (a b : Ref) : Ret Try.prog 34 [.agg (refE a), .agg (refE b)] (.v (.bool (lessB a b))) := by
  refine ret_of_body (fn := Try.f34) (c := Try.f34.body.getD .skip) hm hT (by kernel_rfl) Try.func34 (by kernel_rfl) (by kernel_rfl) (by kernel_rfl) (by kernel_rfl) ?_
  repeat' ((conv => whnf); first | refine And.intro (fun h => h) ?_ | refine dcond_t (by assumption) ?_ | refine dcond_f (by assumption) ?_ | (refine dcond_intro ?_ ?_ <;> intro h) | exact .refl | refine And.intro (by kernel_rfl) ?_ | refine And.intro ⟨fun h => h, fun h => h⟩ ?_ | refine Exists.intro false ?_ | (refine And.intro ?_ ?_; focus (simp; done)) | fail)
theorem rec_ref (x : Rec) : recOk x = bif !refB x.ref || decide (x.ep < 1) || decide (x.ep > 1099511627776) then false else bif decide (x.mem = 0) then decide (x.tgt = 0) else (decide (1 ≤ x.mem) && decide (x.mem ≤ 1000)) && (decide (x.tgt = 0) || ((decide (1 ≤ x.tgt) && decide (x.tgt ≤ 1000)) && !decide (x.tgt = x.mem))) := by
  unfold recOk numB identB
  cases refB x.ref
  · rfl
  · by_cases h1 : x.ep < 1
    · rw [decide_eq_true h1, decide_eq_false (show ¬ 1 ≤ x.ep by omega)]
      rfl
    · by_cases h2 : x.ep > 1099511627776
      · rw [decide_eq_false h1, decide_eq_true h2, decide_eq_false (show ¬ x.ep ≤ 1099511627776 by omega)]
        simp
      · rw [decide_eq_false h1, decide_eq_false h2, decide_eq_true (show 1 ≤ x.ep by omega), decide_eq_true (show x.ep ≤ 1099511627776 by omega)]
        simp only [Bool.not_true, Bool.or_self, cond_false, Bool.true_and]
        cases decide (x.mem = 0) <;> cases decide (x.tgt = 0) <;> cases (decide (1 ≤ x.mem) && decide (x.mem ≤ 1000)) <;> cases (decide (1 ≤ x.tgt) && decide (x.tgt ≤ 1000)) <;> cases decide (x.tgt = x.mem) <;> rfl
theorem c_r14_ValidRecord (x : Rec) : Ret Try.prog 33 [.agg (recE x)] (.v (.bool (recOk x))) := by
  have e1 := c_r14_ValidRef x.ref
  have e2 := c_ref3_IsID x.mem
  have e3 := c_ref3_IsID x.tgt
  rw [rec_ref]
  generalize refB x.ref = rb at *
  refine ret_of_body (fn := Try.f33) (c := Try.f33.body.getD .skip) hm hT (by kernel_rfl) Try.func33 (by kernel_rfl) (by kernel_rfl) (by kernel_rfl) (by kernel_rfl) ?_
  repeat' ((conv => whnf); first | refine And.intro (fun h => h) ?_ | refine dcond_t (by assumption) ?_ | refine dcond_f (by assumption) ?_ | (refine dcond_intro ?_ ?_ <;> intro h) | exact .refl | refine And.intro (by kernel_rfl) ?_ | refine And.intro ⟨fun h => h, fun h => h⟩ ?_ | refine .inl ⟨_, _, DleAll_refl _, e1, ?_⟩ | refine ⟨_, _, DleAll_refl _, fun _ => e1, ?_⟩ | refine ⟨_, _, DleAll_refl _, e1, ?_⟩ | refine .inl ⟨_, _, DleAll_refl _, e2, ?_⟩ | refine ⟨_, _, DleAll_refl _, fun _ => e2, ?_⟩ | refine ⟨_, _, DleAll_refl _, e2, ?_⟩ | refine .inl ⟨_, _, DleAll_refl _, e3, ?_⟩ | refine ⟨_, _, DleAll_refl _, fun _ => e3, ?_⟩ | refine ⟨_, _, DleAll_refl _, e3, ?_⟩ | refine Exists.intro false ?_ | (refine And.intro ?_ ?_; focus (simp; done)) | fail)
  all_goals (conv => whnf)
  · rw [h]
    exact .refl
  · rename_i h0
    rw [h0, h]
    exact .refl
  · rename_i h0
    rw [h0, h]
    exact .refl
theorem c_r14_Valid (d : List Rec) (hl : d.length ≤ maxLen) : Ret Try.prog 12 [.lst 5 (d.map recE) false] (.v (.bool (validB d))) := by
  have hl' : d.length ≤ 9223372036854775807 := hl
  have hd : validB d = (!decide (200 < (d.length : Int)) && allB (okAtR d) d.length) := rfl
  generalize validB d = res at *
  refine ret_of_body (fn := Try.f12) (c := Try.f12.body.getD .skip) hm hT (by kernel_rfl) Try.func12 (by kernel_rfl) (by kernel_rfl) (by kernel_rfl) (by kernel_rfl) ?_
  repeat' ((conv => whnf); first | refine And.intro (fun h => h) ?_ | refine dcond_t (by assumption) ?_ | refine dcond_f (by assumption) ?_ | (refine dcond_intro ?_ ?_ <;> intro h) | exact .refl | refine And.intro (by kernel_rfl) ?_ | refine And.intro ⟨fun h => h, fun h => h⟩ ?_ | refine Exists.intro false ?_ | (refine And.intro ?_ ?_; focus (simp; done)) | fail)
  all_goals (conv => whnf)
  · rw [List.length_map] at h
    have h : decide (200 < (d.length : Int)) = true := h
    rw [hd, h]
    exact .refl
  · rw [List.length_map] at h
    have h : decide (200 < (d.length : Int)) = false := h
    rw [h, Bool.not_false, Bool.true_and] at hd
    clear h
    subst hd
    refine ⟨Nat, fun i => ⟨[(0, .lst 5 (d.map recE) false), (3, i64 i)], []⟩, fun i => i ≤ d.length ∧ ∀ j, j < i → okAtR d j = true, fun i => d.length - i, [], ⟨0, ⟨Nat.zero_le _, by omega⟩, ?_⟩, ?_⟩
    · conv => whnf
      exact ⟨⟨.refl, .refl, trivial⟩, trivial, by rfl⟩
    · intro i ⟨hi, hall⟩
      repeat' ((conv => whnf); first | refine And.intro (fun h => h) ?_ | refine dcond_t (by assumption) ?_ | refine dcond_f (by assumption) ?_ | (refine dcond_intro ?_ ?_ <;> intro h) | exact .refl | refine And.intro (by kernel_rfl) ?_ | refine And.intro ⟨fun h => h, fun h => h⟩ ?_ | refine Exists.intro false ?_ | (refine And.intro ?_ ?_; focus (simp; done)) | fail)
      · have hlt : i < d.length := by simpa using h
        clear h
        have hg : d.getD i zeroR = d[i] := by simp [hlt]
        have hok : okAtR d i = (recOk d[i] && !(decide (0 < (i : Int)) && !lessB (d.getD (i - 1) zeroR).ref d[i].ref)) := by
          unfold okAtR
          rw [hg]
        have e4 := c_r14_ValidRecord d[i]
        have e5 := c_r14_Less (d.getD (i - 1) zeroR).ref d[i].ref
        have hix : ∀ c : Bool, (c && decide ((0 : Int) < (i : Int))) = true → IntKind.i64.wrap ((i : Int) - 1) = ((i - 1 : Nat) : Int) ∧ (d.map recE)[i - 1]? = some (recE (d.getD (i - 1) zeroR)) := fun c h => by
          rw [Bool.and_eq_true, decide_eq_true_eq] at h
          have : i - 1 < d.length := by omega
          refine ⟨by rw [wrap_i64 (by omega) (by omega)]; omega, ?_⟩
          simp [this]
        generalize recOk d[i] = va at e4 hok
        generalize lessB (d.getD (i - 1) zeroR).ref d[i].ref = lb at e5 hok
        generalize d.getD (i - 1) zeroR = lp at e5 hix
        repeat' ((conv => whnf); first | refine And.intro (fun h => h) ?_ | refine dcond_t (by assumption) ?_ | refine dcond_f (by assumption) ?_ | (refine dcond_intro ?_ ?_ <;> intro h) | exact .refl | refine And.intro (by kernel_rfl) ?_ | refine And.intro ⟨fun h => h, fun h => h⟩ ?_ | refine ⟨_, _, And.intro ⟨rfl, get_map hlt⟩ ?_⟩ | refine .inl ⟨_, _, DleAll_refl _, e4, ?_⟩ | refine ⟨_, _, DleAll_refl _, fun _ => e4, ?_⟩ | refine ⟨_, _, DleAll_refl _, e4, ?_⟩ | refine ⟨i - 1, recE lp, And.intro ⟨⟨fun h => h, fun h => h⟩, fun h => hix _ h⟩ ?_⟩ | refine ⟨i, recE (d[i]'hlt), And.intro ⟨⟨fun h => h, fun h => h⟩, fun _ => ⟨rfl, get_map hlt⟩⟩ ?_⟩ | refine .inl ⟨_, _, DleAll_refl _, e5, ?_⟩ | refine ⟨_, _, DleAll_refl _, fun _ => e5, ?_⟩ | refine ⟨_, _, DleAll_refl _, e5, ?_⟩ | refine Exists.intro false ?_ | (refine And.intro ?_ ?_; focus (simp; done)) | fail)
        all_goals (conv => whnf)
        · have hb : okAtR d i = !(!va || (decide ((0 : Int) < (i : Int)) && !lb)) := by
            rw [hok, Bool.not_or, Bool.not_not]
          rw [allB_false hlt (by rw [hb, h]; rfl)]
          exact .refl
        · have hb : okAtR d i = !(!va || (decide ((0 : Int) < (i : Int)) && !lb)) := by
            rw [hok, Bool.not_or, Bool.not_not]
          refine ⟨i + 1, ⟨hlt, fun j hj => ?_⟩, by simp only []; omega, ?_⟩
          · rcases Nat.lt_succ_iff_lt_or_eq.1 hj with hj | rfl
            · exact hall j hj
            · rw [hb, h]
              rfl
          · conv => whnf
            exact ⟨⟨.refl, dle_int (wrap_succ (by omega)), trivial⟩, trivial, by rfl⟩
      · have hge : ¬ i < d.length := by simpa using h
        conv => whnf
        refine dle_bool ?_
        rw [allB_true.2 (fun j hj => hall j (by omega))]
theorem c_r14_Find (d : List Rec) (hl : d.length ≤ 1000000) (r : Ref) : Ret Try.prog 14 [.lst 5 (d.map recE) false, .agg (refE r)] (.tup [.agg (recE (findR d r).1), .v (.bool (findR d r).2)]) := by
  refine ret_of_body (fn := Try.f14) (c := Try.f14.body.getD .skip) hm hT (by kernel_rfl) Try.func14 (by kernel_rfl) (by kernel_rfl) (by kernel_rfl) (by kernel_rfl) ?_
  repeat' ((conv => whnf); first | refine And.intro (fun h => h) ?_ | refine dcond_t (by assumption) ?_ | refine dcond_f (by assumption) ?_ | (refine dcond_intro ?_ ?_ <;> intro h) | exact .refl | refine And.intro (by kernel_rfl) ?_ | refine And.intro ⟨fun h => h, fun h => h⟩ ?_ | refine Exists.intro false ?_ | (refine And.intro ?_ ?_; focus (simp; done)) | fail)
  all_goals (conv => whnf)
  refine ⟨Nat, fun i => ⟨[(0, .lst 5 (d.map recE) false), (3, .lp 0 0), (4, .lp 1 0), (6, i64 i)], [.cells 28 (refE r), .cells 42 (recE zeroR)]⟩, fun i => i ≤ d.length ∧ ∀ j (h : j < d.length), j < i → refEq (d[j].ref) r = false, fun i => d.length - i, [], ⟨0, ⟨Nat.zero_le _, by omega⟩, ?_⟩, ?_⟩
  · conv => whnf
    exact ⟨⟨.refl, .refl, .refl, .refl, trivial⟩, ⟨.refl, .refl, trivial⟩, by rfl⟩
  · intro i ⟨hi, hall⟩
    repeat' ((conv => whnf); first | refine And.intro (fun h => h) ?_ | refine dcond_t (by assumption) ?_ | refine dcond_f (by assumption) ?_ | (refine dcond_intro ?_ ?_ <;> intro h) | exact .refl | refine And.intro (by kernel_rfl) ?_ | refine And.intro ⟨fun h => h, fun h => h⟩ ?_ | refine Exists.intro false ?_ | (refine And.intro ?_ ?_; focus (simp; done)) | fail)
    · have hlt : i < d.length := by simpa using h
      clear h
      have he : refEq d[i].ref r = (decide (d[i].ref.ty = r.ty) && (decide (d[i].ref.key = r.key) && true)) := rfl
      repeat' ((conv => whnf); first | refine And.intro (fun h => h) ?_ | refine dcond_t (by assumption) ?_ | refine dcond_f (by assumption) ?_ | (refine dcond_intro ?_ ?_ <;> intro h) | exact .refl | refine And.intro (by kernel_rfl) ?_ | refine And.intro ⟨fun h => h, fun h => h⟩ ?_ | refine ⟨_, _, And.intro ⟨rfl, get_map hlt⟩ ?_⟩ | refine Exists.intro false ?_ | (refine And.intro ?_ ?_; focus (simp; done)) | fail)
      all_goals (conv => whnf)
      · have hi1 : idxO d r = some i := List.findIdx?_eq_some_iff_getElem.2 ⟨hlt, he.trans h, fun j hj => by simp [hall j (by omega) hj]⟩
        have e1 : findR d r = (d[i], true) := by simp [findR, hi1, hlt]
        rw [e1]
        repeat' ((conv => whnf); first | refine And.intro (fun h => h) ?_ | refine dcond_t (by assumption) ?_ | refine dcond_f (by assumption) ?_ | (refine dcond_intro ?_ ?_ <;> intro h) | exact .refl | refine And.intro (by kernel_rfl) ?_ | refine And.intro ⟨fun h => h, fun h => h⟩ ?_ | refine ⟨_, _, And.intro ⟨rfl, get_map hlt⟩ ?_⟩ | refine Exists.intro false ?_ | (refine And.intro ?_ ?_; focus (simp; done)) | fail)
        try exact .refl
      · refine ⟨i + 1, ⟨hlt, fun j hj hji => ?_⟩, by simp only []; omega, ?_⟩
        · rcases Nat.lt_succ_iff_lt_or_eq.1 hji with hji | rfl
          · exact hall j hj hji
          · exact he.trans h
        · conv => whnf
          exact ⟨⟨.refl, .refl, .refl, dle_int (wrap_succ (by omega)), trivial⟩, ⟨.refl, .refl, trivial⟩, by rfl⟩
    · have hge : ¬ i < d.length := by simpa using h
      have hi1 : idxO d r = none := List.findIdx?_eq_none_iff.2 (fun x hx => by
        obtain ⟨j, hj, rfl⟩ := List.getElem_of_mem hx
        exact hall j hj (by omega))
      have e1 : findR d r = (zeroR, false) := by simp [findR, hi1, zeroR]
      rw [e1]
      conv => whnf
      exact .refl
end Go.Proofs.Ythcclghmeighlaa

set_option linter.unusedSimpArgs false
set_option linter.unusedVariables false
set_option maxRecDepth 100000
namespace Go.Proofs.Ythcclghmeighlaa
open Go.Lift
/-! Route -/
def actE (a : Int × Int) : List DV := [i64 a.1, i64 a.2]
def rBad (self : Int) (v : View) (d : List Rec) (c : List Loc) (a : Ref) (hops : Int) : Bool := !viewB v || !validB d || !valL c || !refB a || !inB v.mem self || decide (hops < 0)
def rHold (v : View) (d : List Rec) (a : Ref) : Int := bif !inB v.mem (findR d a).1.mem then 0 else (findR d a).1.mem
def routeR (self : Int) (v : View) (d : List Rec) (c : List Loc) (a : Ref) (hops : Int) : (Int × Int) × Int :=
  bif rBad self v d c a hops then ((0, 0), 1)
  else bif decide (rHold v d a = self) then ((1, self), 0)
  else bif ((decide (hops < 4) && (lookR c a).2) && !decide ((lookR c a).1 = self)) && inB v.mem (lookR c a).1 then ((2, (lookR c a).1), 0)
  else bif !decide (rHold v d a = 0) then ((2, rHold v d a), 0)
  else bif decide (homeR v a = self) then ((3, self), 0) else ((2, homeR v a), 0)
theorem c_Route (self : Int) (v : View) (hv : v.mem.length ≤ maxLen) (d : List Rec) (hd : d.length ≤ 1000000) (c : List Loc) (hc : c.length ≤ 1000000) (a : Ref) (h1 : a.ty.size ≤ 1000000) (h2 : a.key.size ≤ 1000000) (hops : Int) : Ret Try.prog 9 [i64 self, .agg (viewE v), .lst 5 (d.map recE) false, .lst 4 (c.map locE) false, .agg (refE a), i64 hops] (.tup [.agg (actE (routeR self v d c a hops).1), i64 (routeR self v d c a hops).2]) := by
  have e1 := c_view_Valid v hv
  have e2 := c_directory_Valid d (by simp only [maxLen]; omega)
  have e3 := c_routing_Valid c hc
  have e4 : Ret Try.prog 26 [.agg (refE a)] (.v (.bool (refB a))) := c_directory_ValidRef a
  have e5 : Ret Try.prog 28 [.lst 5 (d.map recE) false, .agg (refE a)] _ := c_directory_Find d (by simp only [maxLen]; omega) a
  have e9 := c_routing_Lookup c hc a
  have e10 := c_ring_Home v hv a h1 h2
  have eC := c_view_Contains v.mem hv
  have hB : rBad self v d c a hops = (!viewB v || !validB d || !valL c || !refB a || !inB v.mem self || decide (hops < 0)) := rfl
  have hH : rHold v d a = bif !inB v.mem (findR d a).1.mem then 0 else (findR d a).1.mem := rfl
  have hR : routeR self v d c a hops = bif rBad self v d c a hops then ((0, 0), 1)
  else bif decide (rHold v d a = self) then ((1, self), 0)
  else bif ((decide (hops < 4) && (lookR c a).2) && !decide ((lookR c a).1 = self)) && inB v.mem (lookR c a).1 then ((2, (lookR c a).1), 0)
  else bif !decide (rHold v d a = 0) then ((2, rHold v d a), 0)
  else bif decide (homeR v a = self) then ((3, self), 0) else ((2, homeR v a), 0) := rfl
  have e6 := eC (findR d a).1.mem
  have e7 := eC (lookR c a).1
  have e8 := eC self
  clear eC
  generalize routeR self v d c a hops = res at *
  generalize rBad self v d c a hops = bad at *
  generalize rHold v d a = ho at *
  generalize homeR v a = hm' at *
  generalize inB v.mem (lookR c a).1 = i1 at *
  generalize lookR c a = lo at *
  obtain ⟨lo1, lo2⟩ := lo
  generalize inB v.mem (findR d a).1.mem = i2 at *
  generalize findR d a = fi at *
  obtain ⟨fi1, fi2⟩ := fi
  generalize inB v.mem self = i3 at *
  generalize viewB v = b1 at *
  generalize validB d = b2 at *
  generalize valL c = b3 at *
  generalize refB a = b4 at *
  simp only [] at *
  refine ret_of_body (fn := Try.f9) (c := Try.f9.body.getD .skip) hm hT (by kernel_rfl) Try.func9 (by kernel_rfl) (by kernel_rfl) (by kernel_rfl) (by kernel_rfl) ?_
  repeat' ((conv => whnf); first | refine And.intro (fun h => h) ?_ | refine dcond_t (by assumption) ?_ | refine dcond_f (by assumption) ?_ | (refine dcond_intro ?_ ?_ <;> intro h) | exact .refl | refine And.intro (by kernel_rfl) ?_ | refine And.intro ⟨fun h => h, fun h => h⟩ ?_ | refine .inl ⟨_, _, DleAll_refl _, e1, ?_⟩ | refine ⟨_, _, DleAll_refl _, fun _ => e1, ?_⟩ | refine ⟨_, _, DleAll_refl _, e1, ?_⟩ | refine .inl ⟨_, _, DleAll_refl _, e2, ?_⟩ | refine ⟨_, _, DleAll_refl _, fun _ => e2, ?_⟩ | refine ⟨_, _, DleAll_refl _, e2, ?_⟩ | refine .inl ⟨_, _, DleAll_refl _, e3, ?_⟩ | refine ⟨_, _, DleAll_refl _, fun _ => e3, ?_⟩ | refine ⟨_, _, DleAll_refl _, e3, ?_⟩ | refine .inl ⟨_, _, DleAll_refl _, e4, ?_⟩ | refine ⟨_, _, DleAll_refl _, fun _ => e4, ?_⟩ | refine ⟨_, _, DleAll_refl _, e4, ?_⟩ | refine .inl ⟨_, _, DleAll_refl _, e8, ?_⟩ | refine ⟨_, _, DleAll_refl _, fun _ => e8, ?_⟩ | refine ⟨_, _, DleAll_refl _, e8, ?_⟩ | refine Exists.intro false ?_ | (refine And.intro ?_ ?_; focus (simp; done)) | fail)
  all_goals (conv => whnf)
  · rw [hR, hB, h]
    exact .refl
  · rw [h] at hB
    rw [hB, cond_false] at hR
    clear h hB
    repeat' ((conv => whnf); first | refine And.intro (fun h => h) ?_ | refine dcond_t (by assumption) ?_ | refine dcond_f (by assumption) ?_ | (refine dcond_intro ?_ ?_ <;> intro h) | exact .refl | refine And.intro (by kernel_rfl) ?_ | refine And.intro ⟨fun h => h, fun h => h⟩ ?_ | refine .inl ⟨_, _, DleAll_refl _, e5, ?_⟩ | refine ⟨_, _, DleAll_refl _, fun _ => e5, ?_⟩ | refine ⟨_, _, DleAll_refl _, e5, ?_⟩ | refine .inl ⟨_, _, DleAll_refl _, e6, ?_⟩ | refine ⟨_, _, DleAll_refl _, fun _ => e6, ?_⟩ | refine ⟨_, _, DleAll_refl _, e6, ?_⟩ | refine Exists.intro false ?_ | (refine And.intro ?_ ?_; focus (simp; done)) | fail)
    all_goals (conv => whnf)
    all_goals (first | (rw [show (!i2) = true from h, cond_true] at hH) | (rw [show (!i2) = false from h, cond_false] at hH))
    all_goals clear h
    all_goals repeat' ((conv => whnf); first | refine And.intro (fun h => h) ?_ | refine dcond_t (by assumption) ?_ | refine dcond_f (by assumption) ?_ | (refine dcond_intro ?_ ?_ <;> intro h) | exact .refl | refine And.intro (by kernel_rfl) ?_ | refine And.intro ⟨fun h => h, fun h => h⟩ ?_ | refine .inl ⟨_, _, DleAll_refl _, e9, ?_⟩ | refine ⟨_, _, DleAll_refl _, fun _ => e9, ?_⟩ | refine ⟨_, _, DleAll_refl _, e9, ?_⟩ | refine .inl ⟨_, _, DleAll_refl _, e10, ?_⟩ | refine ⟨_, _, DleAll_refl _, fun _ => e10, ?_⟩ | refine ⟨_, _, DleAll_refl _, e10, ?_⟩ | refine .inl ⟨_, _, DleAll_refl _, e7, ?_⟩ | refine ⟨_, _, DleAll_refl _, fun _ => e7, ?_⟩ | refine ⟨_, _, DleAll_refl _, e7, ?_⟩ | refine Exists.intro false ?_ | (refine And.intro ?_ ?_; focus (simp; done)) | fail)
    all_goals (conv => whnf)
    all_goals subst hH
    all_goals simp only [*, decide_true, Bool.not_true, Bool.not_false, cond_true, cond_false] at hR
    all_goals rw [hR]
    all_goals exact .refl
theorem c_r15_ValidEntry (e : Loc) : Ret Try.prog 51 [.agg (locE e)] (.v (.bool (entB e))) := by
  have e1 := c_r14_ValidRef e.ref
  have e2 := c_ref3_IsID e.mem
  have hd : entB e = (refB e.ref && (decide (1 ≤ e.mem) && decide (e.mem ≤ 1000)) && decide (e.ep ≥ 1) && decide (e.ep ≤ 1099511627776)) := by
    unfold entB
    rw [Bool.and_assoc (refB e.ref)]
  rw [hd]
  generalize refB e.ref = rb at *
  refine ret_of_body (fn := Try.f51) (c := Try.f51.body.getD .skip) hm hT (by kernel_rfl) Try.func51 (by kernel_rfl) (by kernel_rfl) (by kernel_rfl) (by kernel_rfl) ?_
  repeat' ((conv => whnf); first | refine And.intro (fun h => h) ?_ | refine dcond_t (by assumption) ?_ | refine dcond_f (by assumption) ?_ | (refine dcond_intro ?_ ?_ <;> intro h) | exact .refl | refine And.intro (by kernel_rfl) ?_ | refine And.intro ⟨fun h => h, fun h => h⟩ ?_ | refine .inl ⟨_, _, DleAll_refl _, e1, ?_⟩ | refine ⟨_, _, DleAll_refl _, fun _ => e1, ?_⟩ | refine ⟨_, _, DleAll_refl _, e1, ?_⟩ | refine .inl ⟨_, _, DleAll_refl _, e2, ?_⟩ | refine ⟨_, _, DleAll_refl _, fun _ => e2, ?_⟩ | refine ⟨_, _, DleAll_refl _, e2, ?_⟩ | refine Exists.intro false ?_ | (refine And.intro ?_ ?_; focus (simp; done)) | fail)
theorem c_r15_Valid (c : List Loc) (hl : c.length ≤ 1000000) : Ret Try.prog 30 [.lst 4 (c.map locE) false] (.v (.bool (valL c))) := by
  have hd : valL c = bif decide ((c.length : Int) > 16) then false else allB (okL c) c.length := rfl
  generalize valL c = res at *
  refine ret_of_body (fn := Try.f30) (c := Try.f30.body.getD .skip) hm hT (by kernel_rfl) Try.func30 (by kernel_rfl) (by kernel_rfl) (by kernel_rfl) (by kernel_rfl) ?_
  repeat' ((conv => whnf); first | refine And.intro (fun h => h) ?_ | refine dcond_t (by assumption) ?_ | refine dcond_f (by assumption) ?_ | (refine dcond_intro ?_ ?_ <;> intro h) | exact .refl | refine And.intro (by kernel_rfl) ?_ | refine And.intro ⟨fun h => h, fun h => h⟩ ?_ | refine Exists.intro false ?_ | (refine And.intro ?_ ?_; focus (simp; done)) | fail)
  all_goals (conv => whnf)
  refine ⟨Nat, fun i => ⟨[(0, .lst 4 (c.map locE) false), (3, i64 i)], []⟩, fun i => i ≤ c.length ∧ ∀ j, j < i → okL c j = true, fun i => c.length - i, [], ⟨0, ⟨Nat.zero_le _, by omega⟩, ?_⟩, ?_⟩
  · conv => whnf
    exact ⟨⟨.refl, .refl, trivial⟩, trivial, by rfl⟩
  · intro i ⟨hi, hall⟩
    repeat' ((conv => whnf); first | refine And.intro (fun h => h) ?_ | refine dcond_t (by assumption) ?_ | refine dcond_f (by assumption) ?_ | (refine dcond_intro ?_ ?_ <;> intro h) | exact .refl | refine And.intro (by kernel_rfl) ?_ | refine And.intro ⟨fun h => h, fun h => h⟩ ?_ | refine Exists.intro false ?_ | (refine And.intro ?_ ?_; focus (simp; done)) | fail)
    · have hlt : i < c.length := by simpa using h
      clear h
      have hg : c.getD i loc0 = c[i] := by simp [hlt]
      have hok : okL c i = (entB c[i] && decide (ixL c c[i].ref = (i : Nat))) := by
        unfold okL
        rw [hg]
      have e4 := c_r15_ValidEntry c[i]
      have e5 := c_r15_Of c hl c[i].ref
      generalize entB c[i] = va at *
      generalize ixL c c[i].ref = ix at *
      repeat' ((conv => whnf); first | refine And.intro (fun h => h) ?_ | refine dcond_t (by assumption) ?_ | refine dcond_f (by assumption) ?_ | (refine dcond_intro ?_ ?_ <;> intro h) | exact .refl | refine And.intro (by kernel_rfl) ?_ | refine And.intro ⟨fun h => h, fun h => h⟩ ?_ | refine ⟨_, _, And.intro ⟨rfl, get_map hlt⟩ ?_⟩ | refine .inl ⟨_, _, DleAll_refl _, e4, ?_⟩ | refine ⟨_, _, DleAll_refl _, fun _ => e4, ?_⟩ | refine ⟨_, _, DleAll_refl _, e4, ?_⟩ | refine .inl ⟨_, _, DleAll_refl _, e5, ?_⟩ | refine ⟨_, _, DleAll_refl _, fun _ => e5, ?_⟩ | refine ⟨_, _, DleAll_refl _, e5, ?_⟩ | refine ⟨i, locE (c[i]'hlt), And.intro ⟨⟨fun h => h, fun h => h⟩, fun _ => ⟨rfl, get_map hlt⟩⟩ ?_⟩ | refine Exists.intro false ?_ | (refine And.intro ?_ ?_; focus (simp; done)) | fail)
      all_goals (conv => whnf)
      · have hb : okL c i = !(!va || !decide (ix = (i : Nat))) := by
          rw [hok, Bool.not_or, Bool.not_not, Bool.not_not]
        have hres : res = false := by
          rw [hd, allB_false hlt (by rw [hb, h]; rfl)]
          cases decide ((c.length : Int) > 16) <;> rfl
        rw [hres]
        exact .refl
      · have hb : okL c i = !(!va || !decide (ix = (i : Nat))) := by
          rw [hok, Bool.not_or, Bool.not_not, Bool.not_not]
        refine ⟨i + 1, ⟨hlt, fun j hj => ?_⟩, by simp only []; omega, ?_⟩
        · rcases Nat.lt_succ_iff_lt_or_eq.1 hj with hj | rfl
          · exact hall j hj
          · rw [hb, h]
            rfl
        · conv => whnf
          exact ⟨⟨.refl, dle_int (wrap_succ (by omega)), trivial⟩, trivial, by rfl⟩
    · have hge : ¬ i < c.length := by simpa using h
      conv => whnf
      refine dle_bool ?_
      rw [hd, allB_true.2 (fun j hj => hall j (by omega)), List.length_map]
      by_cases h16 : (c.length : Int) ≤ 16
      · rw [decide_eq_true h16, decide_eq_false (by omega)]
        rfl
      · rw [decide_eq_false h16, decide_eq_true (by omega)]
        rfl
theorem c_r15_Lookup (c : List Loc) (hl : c.length ≤ 1000000) (r : Ref) : Ret Try.prog 31 [.lst 4 (c.map locE) false, .agg (refE r)] (.tup [i64 (lookR c r).1, .v (.bool (lookR c r).2)]) := by
  have e1 := c_r15_Of c hl r
  have e2 := c_r15_Valid c hl
  have hlt := ixL_lt c r
  have hd : lookR c r = bif !valL c || decide (ixL c r < 0) then (0, false) else ((c.getD (ixL c r).toNat loc0).mem, true) := rfl
  generalize lookR c r = res at *
  generalize valL c = vl at *
  generalize ixL c r = ix at *
  have hix : (!vl || decide (ix < 0)) = false → ix = ((ix.toNat : Nat) : Int) ∧ (c.map locE)[ix.toNat]? = some (locE (c.getD ix.toNat loc0)) := fun h => by
    rw [Bool.or_eq_false_iff, decide_eq_false_iff_not] at h
    have : ix.toNat < c.length := by omega
    refine ⟨by omega, by simp [this]⟩
  refine ret_of_body (fn := Try.f31) (c := Try.f31.body.getD .skip) hm hT (by kernel_rfl) Try.func31 (by kernel_rfl) (by kernel_rfl) (by kernel_rfl) (by kernel_rfl) ?_
  repeat' ((conv => whnf); first | refine And.intro (fun h => h) ?_ | refine dcond_t (by assumption) ?_ | refine dcond_f (by assumption) ?_ | (refine dcond_intro ?_ ?_ <;> intro h) | exact .refl | refine And.intro (by kernel_rfl) ?_ | refine And.intro ⟨fun h => h, fun h => h⟩ ?_ | refine .inl ⟨_, _, DleAll_refl _, e1, ?_⟩ | refine ⟨_, _, DleAll_refl _, fun _ => e1, ?_⟩ | refine ⟨_, _, DleAll_refl _, e1, ?_⟩ | refine .inl ⟨_, _, DleAll_refl _, e2, ?_⟩ | refine ⟨_, _, DleAll_refl _, fun _ => e2, ?_⟩ | refine ⟨_, _, DleAll_refl _, e2, ?_⟩ | refine Exists.intro false ?_ | (refine And.intro ?_ ?_; focus (simp; done)) | fail)
  all_goals (conv => whnf)
  · rw [hd, h]
    exact .refl
  · rw [hd, h]
    have hix := hix h
    clear h
    repeat' ((conv => whnf); first | refine And.intro (fun h => h) ?_ | refine dcond_t (by assumption) ?_ | refine dcond_f (by assumption) ?_ | (refine dcond_intro ?_ ?_ <;> intro h) | exact .refl | refine And.intro (by kernel_rfl) ?_ | refine And.intro ⟨fun h => h, fun h => h⟩ ?_ | refine ⟨ix.toNat, locE (c.getD ix.toNat loc0), And.intro hix ?_⟩ | refine Exists.intro false ?_ | (refine And.intro ?_ ?_; focus (simp; done)) | fail)
theorem c_r15_Route (self : Int) (v : View) (hv : v.mem.length ≤ maxLen) (d : List Rec) (hd : d.length ≤ 1000000) (c : List Loc) (hc : c.length ≤ 1000000) (a : Ref) (h1 : a.ty.size ≤ 1000000) (h2 : a.key.size ≤ 1000000) (hops : Int) : Ret Try.prog 10 [i64 self, .agg (viewE v), .lst 5 (d.map recE) false, .lst 4 (c.map locE) false, .agg (refE a), i64 hops] (.tup [.agg (actE (routeR self v d c a hops).1), i64 (routeR self v d c a hops).2]) := by
  have e1 := c_ref3_Valid v hv
  have e2 := c_r14_Valid d (by simp only [maxLen]; omega)
  have e3 := c_r15_Valid c hc
  have e4 := c_r14_ValidRef a
  have e5 := c_r14_Find d hd a
  have e9 := c_r15_Lookup c hc a
  have e10 := c_r13_Home v hv a h1 h2
  have eC := c_ref3_Contains v.mem hv
  have hB : rBad self v d c a hops = (!viewB v || !validB d || !valL c || !refB a || !inB v.mem self || decide (hops < 0)) := rfl
  have hH : rHold v d a = bif !inB v.mem (findR d a).1.mem then 0 else (findR d a).1.mem := rfl
  have hR : routeR self v d c a hops = bif rBad self v d c a hops then ((0, 0), 1)
  else bif decide (rHold v d a = self) then ((1, self), 0)
  else bif ((decide (hops < 4) && (lookR c a).2) && !decide ((lookR c a).1 = self)) && inB v.mem (lookR c a).1 then ((2, (lookR c a).1), 0)
  else bif !decide (rHold v d a = 0) then ((2, rHold v d a), 0)
  else bif decide (homeR v a = self) then ((3, self), 0) else ((2, homeR v a), 0) := rfl
  have e6 := eC (findR d a).1.mem
  have e7 := eC (lookR c a).1
  have e8 := eC self
  clear eC
  generalize routeR self v d c a hops = res at *
  generalize rBad self v d c a hops = bad at *
  generalize rHold v d a = ho at *
  generalize homeR v a = hm' at *
  generalize inB v.mem (lookR c a).1 = i1 at *
  generalize lookR c a = lo at *
  obtain ⟨lo1, lo2⟩ := lo
  generalize inB v.mem (findR d a).1.mem = i2 at *
  generalize findR d a = fi at *
  obtain ⟨fi1, fi2⟩ := fi
  generalize inB v.mem self = i3 at *
  generalize viewB v = b1 at *
  generalize validB d = b2 at *
  generalize valL c = b3 at *
  generalize refB a = b4 at *
  simp only [] at *
  refine ret_of_body (fn := Try.f10) (c := Try.f10.body.getD .skip) hm hT (by kernel_rfl) Try.func10 (by kernel_rfl) (by kernel_rfl) (by kernel_rfl) (by kernel_rfl) ?_
  repeat' ((conv => whnf); first | refine And.intro (fun h => h) ?_ | refine dcond_t (by assumption) ?_ | refine dcond_f (by assumption) ?_ | (refine dcond_intro ?_ ?_ <;> intro h) | exact .refl | refine And.intro (by kernel_rfl) ?_ | refine And.intro ⟨fun h => h, fun h => h⟩ ?_ | refine .inl ⟨_, _, DleAll_refl _, e1, ?_⟩ | refine ⟨_, _, DleAll_refl _, fun _ => e1, ?_⟩ | refine ⟨_, _, DleAll_refl _, e1, ?_⟩ | refine .inl ⟨_, _, DleAll_refl _, e2, ?_⟩ | refine ⟨_, _, DleAll_refl _, fun _ => e2, ?_⟩ | refine ⟨_, _, DleAll_refl _, e2, ?_⟩ | refine .inl ⟨_, _, DleAll_refl _, e3, ?_⟩ | refine ⟨_, _, DleAll_refl _, fun _ => e3, ?_⟩ | refine ⟨_, _, DleAll_refl _, e3, ?_⟩ | refine .inl ⟨_, _, DleAll_refl _, e4, ?_⟩ | refine ⟨_, _, DleAll_refl _, fun _ => e4, ?_⟩ | refine ⟨_, _, DleAll_refl _, e4, ?_⟩ | refine .inl ⟨_, _, DleAll_refl _, e8, ?_⟩ | refine ⟨_, _, DleAll_refl _, fun _ => e8, ?_⟩ | refine ⟨_, _, DleAll_refl _, e8, ?_⟩ | refine Exists.intro false ?_ | (refine And.intro ?_ ?_; focus (simp; done)) | fail)
  all_goals (conv => whnf)
  · rw [hR, hB, h]
    exact .refl
  · rw [h] at hB
    rw [hB, cond_false] at hR
    clear h hB
    repeat' ((conv => whnf); first | refine And.intro (fun h => h) ?_ | refine dcond_t (by assumption) ?_ | refine dcond_f (by assumption) ?_ | (refine dcond_intro ?_ ?_ <;> intro h) | exact .refl | refine And.intro (by kernel_rfl) ?_ | refine And.intro ⟨fun h => h, fun h => h⟩ ?_ | refine .inl ⟨_, _, DleAll_refl _, e5, ?_⟩ | refine ⟨_, _, DleAll_refl _, fun _ => e5, ?_⟩ | refine ⟨_, _, DleAll_refl _, e5, ?_⟩ | refine .inl ⟨_, _, DleAll_refl _, e6, ?_⟩ | refine ⟨_, _, DleAll_refl _, fun _ => e6, ?_⟩ | refine ⟨_, _, DleAll_refl _, e6, ?_⟩ | refine Exists.intro false ?_ | (refine And.intro ?_ ?_; focus (simp; done)) | fail)
    all_goals (conv => whnf)
    all_goals (first | (rw [show (!i2) = true from h, cond_true] at hH) | (rw [show (!i2) = false from h, cond_false] at hH))
    all_goals clear h
    all_goals repeat' ((conv => whnf); first | refine And.intro (fun h => h) ?_ | refine dcond_t (by assumption) ?_ | refine dcond_f (by assumption) ?_ | (refine dcond_intro ?_ ?_ <;> intro h) | exact .refl | refine And.intro (by kernel_rfl) ?_ | refine And.intro ⟨fun h => h, fun h => h⟩ ?_ | refine .inl ⟨_, _, DleAll_refl _, e9, ?_⟩ | refine ⟨_, _, DleAll_refl _, fun _ => e9, ?_⟩ | refine ⟨_, _, DleAll_refl _, e9, ?_⟩ | refine .inl ⟨_, _, DleAll_refl _, e10, ?_⟩ | refine ⟨_, _, DleAll_refl _, fun _ => e10, ?_⟩ | refine ⟨_, _, DleAll_refl _, e10, ?_⟩ | refine .inl ⟨_, _, DleAll_refl _, e7, ?_⟩ | refine ⟨_, _, DleAll_refl _, fun _ => e7, ?_⟩ | refine ⟨_, _, DleAll_refl _, e7, ?_⟩ | refine Exists.intro false ?_ | (refine And.intro ?_ ?_; focus (simp; done)) | fail)
    all_goals (conv => whnf)
    all_goals subst hH
    all_goals simp only [*, decide_true, Bool.not_true, Bool.not_false, cond_true, cond_false] at hR
    all_goals rw [hR]
    all_goals exact .refl
def bigL (c : List Loc) (i : Nat) : Bool := decide (100 < ((c.getD i loc0).ref.ty.size : Int)) || decide (100 < ((c.getD i loc0).ref.key.size : Int))
def smallL (c : List Loc) : Bool := allB (fun i => !bigL c i) c.length && decide ((c.length : Int) ≤ 40)
theorem c_law15_Small (c : List Loc) (hl : c.length ≤ maxLen) : Ret Try.prog 8 [.lst 4 (c.map locE) false] (.v (.bool (smallL c))) := by
  have hl' : c.length ≤ 9223372036854775807 := hl
  refine ret_of_body (fn := Try.f8) (c := Try.f8.body.getD .skip) hm hT (by kernel_rfl) Try.func8 (by kernel_rfl) (by kernel_rfl) (by kernel_rfl) (by kernel_rfl) ?_
  repeat' ((conv => whnf); first | refine And.intro (fun h => h) ?_ | refine dcond_t (by assumption) ?_ | refine dcond_f (by assumption) ?_ | (refine dcond_intro ?_ ?_ <;> intro h) | exact .refl | refine And.intro (by kernel_rfl) ?_ | refine And.intro ⟨fun h => h, fun h => h⟩ ?_ | refine Exists.intro false ?_ | (refine And.intro ?_ ?_; focus (simp; done)) | fail)
  all_goals (conv => whnf)
  refine ⟨Nat, fun i => ⟨[(0, .lst 4 (c.map locE) false), (3, i64 i)], []⟩, fun i => i ≤ c.length ∧ ∀ j, j < i → (!bigL c j) = true, fun i => c.length - i, [], ⟨0, ⟨Nat.zero_le _, by omega⟩, ?_⟩, ?_⟩
  · conv => whnf
    exact ⟨⟨.refl, .refl, trivial⟩, trivial, by rfl⟩
  · intro i ⟨hi, hall⟩
    repeat' ((conv => whnf); first | refine And.intro (fun h => h) ?_ | refine dcond_t (by assumption) ?_ | refine dcond_f (by assumption) ?_ | (refine dcond_intro ?_ ?_ <;> intro h) | exact .refl | refine And.intro (by kernel_rfl) ?_ | refine And.intro ⟨fun h => h, fun h => h⟩ ?_ | refine Exists.intro false ?_ | (refine And.intro ?_ ?_; focus (simp; done)) | fail)
    · have hlt : i < c.length := by simpa using h
      clear h
      have hg : c.getD i loc0 = c[i] := by simp [hlt]
      repeat' ((conv => whnf); first | refine And.intro (fun h => h) ?_ | refine dcond_t (by assumption) ?_ | refine dcond_f (by assumption) ?_ | (refine dcond_intro ?_ ?_ <;> intro h) | exact .refl | refine And.intro (by kernel_rfl) ?_ | refine And.intro ⟨fun h => h, fun h => h⟩ ?_ | refine ⟨_, _, And.intro ⟨rfl, get_map hlt⟩ ?_⟩ | refine ⟨i, locE (c[i]'hlt), And.intro ⟨⟨fun h => h, fun h => h⟩, fun hg => ⟨rfl, get_map hlt⟩⟩ ?_⟩ | refine Exists.intro false ?_ | (refine And.intro ?_ ?_; focus (simp; done)) | fail)
      all_goals (conv => whnf)
      · refine dle_bool ?_
        have : (!bigL c i) = false := by simp only [bigL, hg, h]; rfl
        rw [smallL, allB_false (p := fun i => !bigL c i) hlt this, Bool.false_and]
      · refine ⟨i + 1, ⟨hlt, fun j hj => ?_⟩, by simp only []; omega, ?_⟩
        · rcases Nat.lt_succ_iff_lt_or_eq.1 hj with hj | rfl
          · exact hall j hj
          · simp only [bigL, hg, h]; rfl
        · conv => whnf
          exact ⟨⟨.refl, dle_int (wrap_succ (by omega)), trivial⟩, trivial, by rfl⟩
    · have hge : ¬ i < c.length := by simpa using h
      conv => whnf
      refine dle_bool ?_
      rw [smallL, allB_true.2 (fun j hj => hall j (by omega)), List.length_map]
      rfl
end Go.Proofs.Ythcclghmeighlaa

set_option linter.unusedSimpArgs false
set_option linter.unusedVariables false
set_option maxRecDepth 100000
namespace Go.Proofs.Ythcclghmeighlaa
open Go.Lift
/-! the law's own check -/
def rkR : Ref := ⟨⟨#[97]⟩, ⟨#[98]⟩⟩
def rkE : Loc := ⟨rkR, 2, 1⟩
def rkV : View := ⟨0, [1, 2]⟩
def rkD : Rec := ⟨rkR, 1, 1, 0⟩
theorem rk_all : ∃ (c : List Loc) (m z : Int) (tr : Bool) (a b : Int × Int), (c = [rkE] ∧ m = 2 ∧ z = 0 ∧ tr = true ∧ a = (2, 2) ∧ b = (1, 1)) ∧
    Ret Try.prog 18 [.lst 4 [] false, .agg (locE rkE)] (.lst 4 (c.map locE) false) ∧
    Ret Try.prog 19 [.lst 4 (c.map locE) false, .agg (refE rkR)] (.tup [i64 m, .v (.bool tr)]) ∧
    Ret Try.prog 9 [i64 1, .agg (viewE rkV), .lst 5 [] false, .lst 4 (c.map locE) false, .agg (refE rkR), i64 0] (.tup [.agg (actE a), i64 z]) ∧
    Ret Try.prog 9 [i64 1, .agg (viewE rkV), .lst 5 ([rkD].map recE) false, .lst 4 (c.map locE) false, .agg (refE rkR), i64 0] (.tup [.agg (actE b), i64 z]) ∧
    Ret Try.prog 22 [.lst 4 (c.map locE) false, .agg (refE rkR), i64 2] (.lst 4 [] false) ∧
    Ret Try.prog 23 [.lst 4 (c.map locE) false, .agg (viewE ⟨0, [1]⟩)] (.lst 4 [] false) := by
  have e1 := c_Learn [] (by decide) rkE
  have e2 := c_routing_Lookup [rkE] (by decide) rkR
  have e3 := c_Route 1 rkV (by decide) [] (by decide) [rkE] (by decide) rkR (by decide) (by decide) 0
  have e4 := c_Route 1 rkV (by decide) [rkD] (by decide) [rkE] (by decide) rkR (by decide) (by decide) 0
  have e5 := c_Forget [rkE] (by decide) rkR 2
  have e6 := c_Prune [rkE] (by decide) ⟨0, [1]⟩ (by decide)
  have h1 : learnR [] rkE = [rkE] := by kernel_rfl
  have h2 : lookR [rkE] rkR = (2, true) := by kernel_rfl
  have h3 : routeR 1 rkV [] [rkE] rkR 0 = ((2, 2), 0) := by kernel_rfl
  have h4 : routeR 1 rkV [rkD] [rkE] rkR 0 = ((1, 1), 0) := by kernel_rfl
  have h5 : forgetR [rkE] rkR 2 = [] := by kernel_rfl
  have h6 : pruneR [rkE] ⟨0, [1]⟩ = [] := by kernel_rfl
  rw [h1] at e1
  rw [h2] at e2
  rw [h3] at e3
  rw [h4] at e4
  rw [h5] at e5
  rw [h6] at e6
  exact ⟨[rkE], 2, 0, true, (2, 2), (1, 1), ⟨rfl, rfl, rfl, rfl, rfl, rfl⟩, e1, e2, e3, e4, e5, e6⟩
theorem c_law15_awake : Ret Try.prog 6 [] (.v (.bool true)) := by
  obtain ⟨c, m, z, tr, a, b, ⟨hc, hm', hz, htr, ha, hb⟩, e1, e2, e3, e4, e5, e6⟩ := rk_all
  obtain ⟨a1, a2⟩ := a
  obtain ⟨b1, b2⟩ := b
  refine ret_of_body (fn := Try.f6) (c := Try.f6.body.getD .skip) hm hT (by kernel_rfl) Try.func6 (by kernel_rfl) (by kernel_rfl) (by kernel_rfl) (by kernel_rfl) ?_
  repeat' ((conv => whnf); first | refine And.intro (fun h => h) ?_ | refine dcond_t (by assumption) ?_ | refine dcond_f (by assumption) ?_ | (refine dcond_intro ?_ ?_ <;> intro h) | exact .refl | refine And.intro (by kernel_rfl) ?_ | refine And.intro ⟨fun h => h, fun h => h⟩ ?_ | refine .inl ⟨[.lst 4 [] false, _], _, ⟨.nl, .refl, trivial⟩, e1, ?_⟩ | refine ⟨[.lst 4 [] false, _], _, ⟨.nl, .refl, trivial⟩, e1, ?_⟩ | refine .inl ⟨_, _, DleAll_refl _, e2, ?_⟩ | refine ⟨_, _, DleAll_refl _, fun _ => e2, ?_⟩ | refine ⟨_, _, DleAll_refl _, e2, ?_⟩ | refine .inl ⟨[_, _, .lst 5 [] false, _, _, _], _, ⟨.refl, .refl, .nl, .refl, .refl, .refl, trivial⟩, e3, ?_⟩ | refine .inl ⟨_, _, DleAll_refl _, e4, ?_⟩ | refine ⟨_, _, DleAll_refl _, fun _ => e4, ?_⟩ | refine ⟨_, _, DleAll_refl _, e4, ?_⟩ | refine .inl ⟨_, _, DleAll_refl _, e5, ?_⟩ | refine ⟨_, _, DleAll_refl _, fun _ => e5, ?_⟩ | refine ⟨_, _, DleAll_refl _, e5, ?_⟩ | refine .inl ⟨_, _, DleAll_refl _, e6, ?_⟩ | refine ⟨_, _, DleAll_refl _, fun _ => e6, ?_⟩ | refine ⟨_, _, DleAll_refl _, e6, ?_⟩ | refine Exists.intro false ?_ | (refine And.intro ?_ ?_; focus (simp; done)) | fail)
  cases ha
  cases hb
  subst htr hz hm'
  clear hc
  repeat' ((conv => whnf); first | refine And.intro (fun h => h) ?_ | refine dcond_t (by assumption) ?_ | refine dcond_f (by assumption) ?_ | (refine dcond_intro ?_ ?_ <;> intro h) | exact .refl | refine And.intro (by kernel_rfl) ?_ | refine And.intro ⟨fun h => h, fun h => h⟩ ?_ | refine .inl ⟨_, _, DleAll_refl _, e5, ?_⟩ | refine ⟨_, _, DleAll_refl _, fun _ => e5, ?_⟩ | refine ⟨_, _, DleAll_refl _, e5, ?_⟩ | refine .inl ⟨[_, .agg (viewE ⟨0, [1]⟩)], _, ⟨.refl, .refl, trivial⟩, e6, ?_⟩ | refine ⟨[_, .agg (viewE ⟨0, [1]⟩)], _, ⟨.refl, .refl, trivial⟩, e6, ?_⟩ | refine ⟨[_, .agg (viewE ⟨0, [1]⟩)], _, ⟨.refl, .refl, trivial⟩, fun _ => e6, ?_⟩ | refine Exists.intro false ?_ | (refine And.intro ?_ ?_; focus (simp; done)) | fail)
  repeat' ((conv => whnf); first | refine And.intro (fun h => h) ?_ | refine dcond_t (by assumption) ?_ | refine dcond_f (by assumption) ?_ | (refine dcond_intro ?_ ?_ <;> intro h) | exact .refl | refine And.intro (by kernel_rfl) ?_ | refine And.intro ⟨fun h => h, fun h => h⟩ ?_ | refine .inl ⟨[_, .agg (viewE ⟨0, [1]⟩)], _, ⟨.refl, .refl, trivial⟩, e6, ?_⟩ | refine ⟨[_, .agg (viewE ⟨0, [1]⟩)], _, ⟨.refl, .refl, trivial⟩, e6, ?_⟩ | refine ⟨[_, .agg (viewE ⟨0, [1]⟩)], _, ⟨.refl, .refl, trivial⟩, fun _ => e6, ?_⟩ | refine And.intro (fun _ => ?_) (fun hg => absurd hg (by decide)) | refine Exists.intro false ?_ | (refine And.intro ?_ ?_; focus (simp; done)) | fail)
  all_goals (conv => whnf)
end Go.Proofs.Ythcclghmeighlaa

set_option linter.unusedSimpArgs false
set_option linter.unusedVariables false
set_option maxRecDepth 100000
namespace Go.Proofs.Ythcclghmeighlaa
open Go.Lift
/-! RouteTells -/
theorem dat_ref {n : Nat} {r : List DV} (h : Dat tt (n + 2) 28 r) : ∃ x : Ref, r = refE x := by
  obtain ⟨_, _, rfl, ⟨s, rfl, _⟩, _, _, rfl, ⟨s2, rfl, _⟩, rfl⟩ := h
  exact ⟨⟨s, s2⟩, rfl⟩
theorem dat_rec {n : Nat} {r : List DV} (h : Dat tt (n + 3) 42 r) : ∃ x : Rec, r = recE x := by
  obtain ⟨_, _, rfl, hr, _, _, rfl, ⟨m, rfl, _⟩, _, _, rfl, ⟨e, rfl, _⟩, _, _, rfl, ⟨t, rfl, _⟩, rfl⟩ := h
  obtain ⟨x, rfl⟩ := dat_ref (n := n) hr
  exact ⟨⟨x, m, e, t⟩, rfl⟩
theorem dat_recs {n : Nat} {r : List DV} (h : Dat tt (n + 4) 25 r) : ∃ d : List Rec, r = [.lst 5 (d.map recE) false] ∧ d.length ≤ maxLen := by
  obtain ⟨es, rfl, hl, hes⟩ := h
  obtain ⟨d, rfl, _⟩ := list_data (f := recE) (Q := fun _ => True) (fun r hr => (dat_rec (n := n) (hes r hr)).imp fun _ e => ⟨e, trivial⟩)
  exact ⟨d, rfl, by simpa using hl⟩
theorem dat_loc {n : Nat} {r : List DV} (h : Dat tt (n + 3) 48 r) : ∃ x : Loc, r = locE x := by
  obtain ⟨_, _, rfl, hr, _, _, rfl, ⟨m, rfl, _⟩, _, _, rfl, ⟨e, rfl, _⟩, rfl⟩ := h
  obtain ⟨x, rfl⟩ := dat_ref (n := n) hr
  exact ⟨⟨x, m, e⟩, rfl⟩
theorem dat_locs {n : Nat} {r : List DV} (h : Dat tt (n + 4) 26 r) : ∃ d : List Loc, r = [.lst 4 (d.map locE) false] ∧ d.length ≤ maxLen := by
  obtain ⟨es, rfl, hl, hes⟩ := h
  obtain ⟨d, rfl, _⟩ := list_data (f := locE) (Q := fun _ => True) (fun r hr => (dat_loc (n := n) (hes r hr)).imp fun _ e => ⟨e, trivial⟩)
  exact ⟨d, rfl, by simpa using hl⟩
theorem small_len {d : List Rec} (h : smallB d = true) : d.length ≤ 260 := by
  unfold smallB at h
  rw [Bool.and_eq_true, decide_eq_true_eq] at h
  omega
theorem smallL_len {d : List Loc} (h : smallL d = true) : d.length ≤ 40 := by
  unfold smallL at h
  rw [Bool.and_eq_true, decide_eq_true_eq] at h
  omega
theorem r3 (self : Int) (v : View) (hv : v.mem.length ≤ maxLen) (d : List Rec) (hd : d.length ≤ maxLen) (c : List Loc) (hc : c.length ≤ maxLen) (a : Ref) (hops : Int) : Ret Try.prog 3 [i64 self, .agg (viewE v), .lst 5 (d.map recE) false, .lst 4 (c.map locE) false, .agg (refE a), i64 hops] (.v (.bool true)) := by
  have e1 := c_law14_Small d hd
  have e2 := c_law15_Small c hc
  have s1 := small_len (d := d)
  have s2 := smallL_len (d := c)
  generalize smallB d = b1 at *
  generalize smallL c = b2 at *
  refine ret_of_body (fn := Try.f3) (c := Try.f3.body.getD .skip) hm hT (by kernel_rfl) Try.func3 (by kernel_rfl) (by kernel_rfl) (by kernel_rfl) (by kernel_rfl) ?_
  repeat' ((conv => whnf); first | refine And.intro (fun h => h) ?_ | refine dcond_t (by assumption) ?_ | refine dcond_f (by assumption) ?_ | (refine dcond_intro ?_ ?_ <;> intro h) | exact .refl | refine And.intro (by kernel_rfl) ?_ | refine And.intro ⟨fun h => h, fun h => h⟩ ?_ | refine .inl ⟨_, _, DleAll_refl _, c_law15_awake, ?_⟩ | refine ⟨_, _, DleAll_refl _, fun _ => c_law15_awake, ?_⟩ | refine ⟨_, _, DleAll_refl _, c_law15_awake, ?_⟩ | refine .inl ⟨_, _, DleAll_refl _, e1, ?_⟩ | refine ⟨_, _, DleAll_refl _, fun _ => e1, ?_⟩ | refine ⟨_, _, DleAll_refl _, e1, ?_⟩ | refine .inl ⟨_, _, DleAll_refl _, e2, ?_⟩ | refine ⟨_, _, DleAll_refl _, fun _ => e2, ?_⟩ | refine ⟨_, _, DleAll_refl _, e2, ?_⟩ | refine Exists.intro false ?_ | (refine And.intro ?_ ?_; focus (simp; done)) | fail)
  simp only [Bool.or_eq_false_iff, Bool.not_eq_false', decide_eq_false_iff_not, List.length_map] at h
  obtain ⟨⟨⟨⟨h1, h2⟩, h3⟩, h4⟩, h5⟩ := h
  have s1 := s1 h1
  have s2 := s2 h2
  have e3 := c_Route self v hv d (by omega) c (by omega) a (by omega) (by omega) hops
  have e4 := c_r15_Route self v hv d (by omega) c (by omega) a (by omega) (by omega) hops
  generalize routeR self v d c a hops = R at *
  obtain ⟨⟨R1, R2⟩, R3⟩ := R
  clear e1 e2
  repeat' ((conv => whnf); first | refine And.intro (fun h => h) ?_ | refine dcond_t (by assumption) ?_ | refine dcond_f (by assumption) ?_ | (refine dcond_intro ?_ ?_ <;> intro h) | exact .refl | refine And.intro (by kernel_rfl) ?_ | refine And.intro ⟨fun h => h, fun h => h⟩ ?_ | refine .inl ⟨_, _, DleAll_refl _, e3, ?_⟩ | refine ⟨_, _, DleAll_refl _, fun _ => e3, ?_⟩ | refine ⟨_, _, DleAll_refl _, e3, ?_⟩ | refine .inl ⟨_, _, DleAll_refl _, e4, ?_⟩ | refine ⟨_, _, DleAll_refl _, fun _ => e4, ?_⟩ | refine ⟨_, _, DleAll_refl _, e4, ?_⟩ | refine Exists.intro false ?_ | (refine And.intro ?_ ?_; focus (simp; done)) | fail)
  all_goals (conv => whnf)
  refine dle_bool ?_
  simp
theorem law3 (dvs : List DV) (h : DatAll tt 6 [3, 24, 25, 26, 28, 3] dvs) : Ret Try.prog 3 dvs (.v (.bool true)) := by
  obtain ⟨_, _, rfl, ⟨s, rfl, _⟩, a2, _, rfl, h2, a3, _, rfl, h3, a4, _, rfl, h4, a5, _, rfl, h5, _, _, rfl, ⟨p, rfl, _⟩, rfl⟩ := h
  obtain ⟨v, rfl, hv⟩ := dat_view (n := 3) h2
  obtain ⟨d, rfl, hd⟩ := dat_recs (n := 2) h3
  obtain ⟨c, rfl, hc⟩ := dat_locs (n := 2) h4
  obtain ⟨a, rfl⟩ := dat_ref (n := 4) h5
  exact r3 s v hv d hd c hc a p
end Go.Proofs.Ythcclghmeighlaa

set_option linter.unusedSimpArgs false
set_option linter.unusedVariables false
set_option maxRecDepth 100000
namespace Go.Proofs.Ythcclghmeighlaa
open Go.Lift
/-! RouteArrives -/
theorem place_at {l : List Int} {x : Int} (h : x ∈ l) : ∃ (k : Nat) (hk : k < l.length), placeB l x = k ∧ l[k] = x := by
  rcases hf : (List.range l.length).find? (fun i => decide (l[i]? = some x)) with _ | n
  · obtain ⟨i, hi, rfl⟩ := List.getElem_of_mem h
    have := List.find?_eq_none.1 hf i (List.mem_range.2 hi)
    simp [hi] at this
  · have h1 := List.mem_range.1 (List.mem_of_find?_eq_some hf)
    refine ⟨n, h1, by simp only [placeB, findB, hf], ?_⟩
    have h2 : decide (l[n]? = some x) = true := List.find?_some (p := fun i => decide (l[i]? = some x)) hf
    have h2 := of_decide_eq_true h2
    rw [List.getElem?_eq_getElem h1] at h2
    exact Option.some.inj h2
theorem mem_pos {v : View} (hv : viewB v = true) {x : Int} (h : inB v.mem x = true) : 1 ≤ x ∧ x ≤ 1000 := (ids_pw.1 (view_ids hv)).2.2 x (in_iff.1 h)
theorem home_in {v : View} (hv : viewB v = true) (a : Ref) : inB v.mem (homeR v a) = true := by
  unfold homeR
  rw [hv]
  exact in_iff.2 (owner_in_ring (view_ids hv) (actH a))
theorem hold_or {v : View} {d : List Rec} {a : Ref} : (rHold v d a = 0 ∧ inB v.mem (findR d a).1.mem = false) ∨ (inB v.mem (findR d a).1.mem = true ∧ rHold v d a = (findR d a).1.mem) := by
  unfold rHold
  cases h : inB v.mem (findR d a).1.mem
  · exact .inl ⟨rfl, rfl⟩
  · exact .inr ⟨rfl, rfl⟩
/-- where the request goes in the end -/
def goalR (v : View) (d : List Rec) (a : Ref) : Int := if rHold v d a = 0 then homeR v a else rHold v d a
theorem route_ok {v : View} (hv : viewB v = true) {d : List Rec} (hd : validB d = true) {c : List Loc} (hc : valL c = true) {a : Ref} (ha : refB a = true) {at' : Int} (hat : inB v.mem at' = true) {hops : Nat} (h5 : hops = 5 → at' = goalR v d a) :
    (routeR at' v d c a hops).2 = 0 ∧
    (((routeR at' v d c a hops).1 = (1, at') ∧ inB v.mem (findR d a).1.mem = true ∧ at' = (findR d a).1.mem) ∨
     ((routeR at' v d c a hops).1 = (3, at') ∧ inB v.mem (findR d a).1.mem = false ∧ at' = homeR v a) ∨
     (∃ to, (routeR at' v d c a hops).1 = (2, to) ∧ to ≠ at' ∧ inB v.mem to = true ∧ hops ≠ 5 ∧ (hops = 4 → to = goalR v d a))) := by
  have hb : rBad at' v d c a hops = false := by
    unfold rBad
    rw [hv, hd, hc, ha, hat, decide_eq_false (by omega)]
    rfl
  have hp := mem_pos hv hat
  have hhome := home_in hv a
  have hho := hold_or (v := v) (d := d) (a := a)
  have hg : goalR v d a = if rHold v d a = 0 then homeR v a else rHold v d a := rfl
  have hr : routeR at' v d c a hops = bif rBad at' v d c a hops then ((0, 0), 1)
    else bif decide (rHold v d a = at') then ((1, at'), 0)
    else bif ((decide ((hops : Int) < 4) && (lookR c a).2) && !decide ((lookR c a).1 = at')) && inB v.mem (lookR c a).1 then ((2, (lookR c a).1), 0)
    else bif !decide (rHold v d a = 0) then ((2, rHold v d a), 0)
    else bif decide (homeR v a = at') then ((3, at'), 0) else ((2, homeR v a), 0) := rfl
  rw [hb, cond_false] at hr
  generalize routeR at' v d c a hops = R at *
  generalize goalR v d a = G at *
  generalize rHold v d a = H at *
  generalize homeR v a = Q at *
  generalize (findR d a).1.mem = X at *
  generalize lookR c a = L at *
  obtain ⟨L1, L2⟩ := L
  simp only [] at hr
  by_cases h1 : H = at'
  · rw [decide_eq_true h1, cond_true] at hr
    subst hr
    refine ⟨rfl, .inl ⟨rfl, ?_⟩⟩
    rcases hho with ⟨h2, _⟩ | ⟨h2, h3⟩
    · omega
    · exact ⟨h2, by omega⟩
  · rw [decide_eq_false h1, cond_false] at hr
    cases h2 : (((decide ((hops : Int) < 4) && L2) && !decide (L1 = at')) && inB v.mem L1)
    · rw [h2, cond_false] at hr
      by_cases h3 : H = 0
      · rw [decide_eq_true h3, Bool.not_true, cond_false] at hr
        have hX : inB v.mem X = false := by
          rcases hho with ⟨_, h4⟩ | ⟨h4, h5⟩
          · exact h4
          · have := mem_pos hv h4
            omega
        rw [if_pos h3] at hg
        by_cases h4 : Q = at'
        · rw [decide_eq_true h4, cond_true] at hr
          subst hr
          exact ⟨rfl, .inr (.inl ⟨rfl, hX, h4.symm⟩)⟩
        · rw [decide_eq_false h4, cond_false] at hr
          subst hr
          refine ⟨rfl, .inr (.inr ⟨Q, rfl, h4, hhome, fun h => ?_, fun _ => hg.symm⟩)⟩
          have := h5 h
          omega
      · rw [decide_eq_false h3, Bool.not_false, cond_true] at hr
        subst hr
        rw [if_neg h3] at hg
        refine ⟨rfl, .inr (.inr ⟨H, rfl, h1, ?_, fun h => ?_, fun _ => hg.symm⟩)⟩
        · rcases hho with ⟨h4, _⟩ | ⟨h4, h6⟩
          · exact absurd h4 h3
          · rw [h6]
            exact h4
        · have := h5 h
          omega
    · rw [h2, cond_true] at hr
      subst hr
      simp only [Bool.and_eq_true, decide_eq_true_eq, Bool.not_eq_true', decide_eq_false_iff_not] at h2
      exact ⟨rfl, .inr (.inr ⟨L1, rfl, h2.1.2, h2.2, by omega, fun h => by omega⟩)⟩
theorem valL_one {a : Ref} (ha : refB a = true) {m : Int} (h1 : 1 ≤ m) (h2 : m ≤ 1000) : valL [⟨a, m, 1⟩] = true := by
  have hi : ixL [⟨a, m, 1⟩] a = (0 : Nat) := ixL_some (c := [⟨a, m, 1⟩]) (i := 0) (by simp) (refEq_iff.2 rfl) (by omega)
  unfold valL
  show allB (okL [⟨a, m, 1⟩]) 1 = true
  refine allB_true.2 fun j hj => ?_
  have : j = 0 := by omega
  subst this
  unfold okL entB
  show ((refB a && decide (m ≥ 1) && decide (m ≤ 1000) && decide ((1 : Int) ≥ 1) && decide ((1 : Int) ≤ 1099511627776)) && decide (ixL [⟨a, m, 1⟩] a = ((0 : Nat) : Int))) = true
  rw [ha, hi, decide_eq_true (show m ≥ 1 by omega), decide_eq_true h2]
  rfl
theorem valL_nil : valL [] = true := by kernel_rfl
theorem r4 (v : View) (hv : v.mem.length ≤ maxLen) (d : List Rec) (hd : d.length ≤ maxLen) (a : Ref) (fr : Nat) (hfr : fr ≤ 255) (st : List Nat) (hst : st.length ≤ maxLen) (hsb : ∀ x ∈ st, x ≤ 255) : Ret Try.prog 4 [.agg (viewE v), .lst 5 (d.map recE) false, .agg (refE a), .v (.int .u8 fr), .lst 1 (st.map byteI) false] (.v (.bool true)) := by
  have e0 := c_ref3_Valid v hv
  have e1 := c_law14_Small d hd
  have s1 := small_len (d := d)
  have e2 := c_r14_Valid d hd
  have e3 := c_r14_ValidRef a
  generalize smallB d = b1 at *
  refine ret_of_body (fn := Try.f4) (c := Try.f4.body.getD .skip) hm hT (by kernel_rfl) Try.func4 (by kernel_rfl) (by kernel_rfl) (by kernel_rfl) (by kernel_rfl) ?_
  repeat' ((conv => whnf); first | refine And.intro (fun h => h) ?_ | refine dcond_t (by assumption) ?_ | refine dcond_f (by assumption) ?_ | (refine dcond_intro ?_ ?_ <;> intro h) | exact .refl | refine And.intro (by kernel_rfl) ?_ | refine And.intro ⟨fun h => h, fun h => h⟩ ?_ | refine .inl ⟨_, _, DleAll_refl _, c_law15_awake, ?_⟩ | refine ⟨_, _, DleAll_refl _, fun _ => c_law15_awake, ?_⟩ | refine ⟨_, _, DleAll_refl _, c_law15_awake, ?_⟩ | refine .inl ⟨_, _, DleAll_refl _, e0, ?_⟩ | refine ⟨_, _, DleAll_refl _, fun _ => e0, ?_⟩ | refine ⟨_, _, DleAll_refl _, e0, ?_⟩ | refine .inl ⟨_, _, DleAll_refl _, e1, ?_⟩ | refine ⟨_, _, DleAll_refl _, fun _ => e1, ?_⟩ | refine ⟨_, _, DleAll_refl _, e1, ?_⟩ | refine .inl ⟨_, _, DleAll_refl _, e2, ?_⟩ | refine ⟨_, _, DleAll_refl _, fun _ => e2, ?_⟩ | refine ⟨_, _, DleAll_refl _, e2, ?_⟩ | refine .inl ⟨_, _, DleAll_refl _, e3, ?_⟩ | refine ⟨_, _, DleAll_refl _, fun _ => e3, ?_⟩ | refine ⟨_, _, DleAll_refl _, e3, ?_⟩ | refine Exists.intro false ?_ | (refine And.intro ?_ ?_; focus (simp; done)) | fail)
  simp only [Bool.or_eq_false_iff, Bool.not_eq_false', decide_eq_false_iff_not, List.length_map] at h
  obtain ⟨⟨⟨⟨hvw, hb1⟩, hvd⟩, hra⟩, hlen⟩ := h
  have s1 := s1 hb1
  have h16 := view_len hvw
  have e5 := c_r14_Find d (by omega) a
  have e6 := c_ref3_Contains v.mem hv (findR d a).1.mem
  have hasz : a.ty.size ≤ 1000000 ∧ a.key.size ≤ 1000000 := by
    simp only [refB, Bool.and_eq_true, decide_eq_true_eq] at hra
    omega
  clear e0 e1 e2 e3
  have hne : ((v.mem.map intE).length : Int) ≠ 0 := by
    rw [List.length_map]
    omega
  have hix : Int.tmod (IntKind.i64.wrap (fr : Int)) ((v.mem.map intE).length : Int) = ((fr % v.mem.length : Nat) : Int) := by
    rw [List.length_map, wrap_i64 (by omega) (by omega)]
    exact (Int.ofNat_tmod _ _).symm
  have hkf : fr % v.mem.length < v.mem.length := Nat.mod_lt _ (by omega)
  have hgf : (v.mem.map intE)[fr % v.mem.length]? = some (intE (v.mem.getD (fr % v.mem.length) 0)) := by simp [hkf]
  have hat0 : inB v.mem (v.mem.getD (fr % v.mem.length) 0) = true := by
    have : v.mem.getD (fr % v.mem.length) 0 = v.mem[fr % v.mem.length] := by simp [hkf]
    rw [this]
    exact mem_in hkf
  generalize v.mem.getD (fr % v.mem.length) 0 = at0 at *
  generalize fr % v.mem.length = kf at *
  repeat' ((conv => whnf); first | refine And.intro (fun h => h) ?_ | refine dcond_t (by assumption) ?_ | refine dcond_f (by assumption) ?_ | (refine dcond_intro ?_ ?_ <;> intro h) | exact .refl | refine And.intro (by kernel_rfl) ?_ | refine And.intro ⟨fun h => h, fun h => h⟩ ?_ | refine And.intro hne ?_ | refine ⟨kf, _, And.intro ⟨hix, hgf⟩ ?_⟩ | refine .inl ⟨_, _, DleAll_refl _, e5, ?_⟩ | refine ⟨_, _, DleAll_refl _, fun _ => e5, ?_⟩ | refine ⟨_, _, DleAll_refl _, e5, ?_⟩ | refine .inl ⟨_, _, DleAll_refl _, e6, ?_⟩ | refine ⟨_, _, DleAll_refl _, fun _ => e6, ?_⟩ | refine ⟨_, _, DleAll_refl _, e6, ?_⟩ | refine Exists.intro false ?_ | (refine And.intro ?_ ?_; focus (simp; done)) | fail)
  have e7 := c_r13_Home v hv a hasz.1 hasz.2
  refine ⟨Nat × Int, fun x => ⟨[(1, .lst 5 (d.map recE) false), (4, .lst 1 (st.map byteI) false), (5, .lp 0 0), (7, .lp 1 0), (11, i64 x.2), (12, .lp 2 0), (14, .v (.bool (inB v.mem (findR d a).1.mem))), (15, i64 x.1)], [.cells 24 (viewE v), .cells 28 (refE a), .cells 42 (recE (findR d a).1)]⟩, fun x => inB v.mem x.2 = true ∧ x.1 ≤ 5 ∧ (x.1 = 5 → x.2 = goalR v d a), fun x => 6 - x.1, [], ⟨⟨0, at0⟩, ⟨hat0, by simp only []; omega, fun h => by simp only [] at h; omega⟩, ?_⟩, ?_⟩
  · conv => whnf
    exact ⟨⟨.refl, .refl, .refl, .refl, .refl, .refl, .refl, .refl, trivial⟩, ⟨.refl, .refl, .refl, trivial⟩, by rfl⟩
  · clear hix hgf hat0
    intro ⟨hops, at'⟩ ⟨hat, hh5, h5⟩
    simp only [] at hat hh5 h5
    obtain ⟨k, hk, hpl, _⟩ := place_at (in_iff.1 hat)
    have ep := c_ref3_Place v.mem hv at'
    rw [hpl] at ep
    have hks : k < st.length := by omega
    have hsk := hsb st[k] (List.getElem_mem hks)
    have hkh : st[k] / 2 % v.mem.length < v.mem.length := Nat.mod_lt _ (by omega)
    have hm1 : IntKind.i64.wrap (1 + Int.tmod (IntKind.i64.wrap (st[k] : Int)) 1000) = 1 + ((st[k] % 1000 : Nat) : Int) := by
      have e : Int.tmod (st[k] : Int) 1000 = ((st[k] % 1000 : Nat) : Int) := (Int.ofNat_tmod st[k] 1000).symm
      rw [wrap_i64 (n := (st[k] : Int)) (by omega) (by omega), e, wrap_i64 (by omega) (by omega)]
    have hv1 : valL [⟨a, IntKind.i64.wrap (1 + Int.tmod (IntKind.i64.wrap (st[k] : Int)) 1000), 1⟩] = true := valL_one hra (by rw [hm1]; omega) (by rw [hm1]; omega)
    have hv2 : valL [⟨a, v.mem.getD (st[k] / 2 % v.mem.length) 0, 1⟩] = true := by
      have hg : v.mem.getD (st[k] / 2 % v.mem.length) 0 = v.mem[st[k] / 2 % v.mem.length] := by simp [hkh]
      have := mem_pos hvw (mem_in hkh)
      rw [← hg] at this
      exact valL_one hra this.1 this.2
    have hi2 : Int.tmod (IntKind.i64.wrap (IntKind.u8.wrap (Int.tdiv (st[k] : Int) 2))) ((v.mem.map intE).length : Int) = ((st[k] / 2 % v.mem.length : Nat) : Int) := by
      have e : Int.tdiv (st[k] : Int) 2 = ((st[k] / 2 : Nat) : Int) := (Int.ofNat_tdiv st[k] 2).symm
      have e2 : IntKind.u8.wrap ((st[k] / 2 : Nat) : Int) = ((st[k] / 2 : Nat) : Int) := by
        simp only [IntKind.wrap, IntKind.bits, IntKind.signed]
        simp
        omega
      rw [e, e2, wrap_i64 (by omega) (by omega), List.length_map]
      exact (Int.ofNat_tmod _ _).symm
    have hg2 : (v.mem.map intE)[st[k] / 2 % v.mem.length]? = some (intE (v.mem.getD (st[k] / 2 % v.mem.length) 0)) := by simp [hkh]
    repeat' ((conv => whnf); first | refine And.intro (fun h => h) ?_ | refine dcond_t (by assumption) ?_ | refine dcond_f (by assumption) ?_ | (refine dcond_intro ?_ ?_ <;> intro h) | exact .refl | refine And.intro (by kernel_rfl) ?_ | refine And.intro ⟨fun h => h, fun h => h⟩ ?_ | refine .inl ⟨_, _, DleAll_refl _, ep, ?_⟩ | refine ⟨_, _, DleAll_refl _, fun _ => ep, ?_⟩ | refine ⟨_, _, DleAll_refl _, ep, ?_⟩ | refine ⟨_, _, And.intro ⟨rfl, get_map hks⟩ ?_⟩ | refine And.intro (by decide) ?_ | refine And.intro hne ?_ | refine ⟨st[k] / 2 % v.mem.length, _, And.intro ⟨hi2, hg2⟩ ?_⟩ | refine Exists.intro true ?_ | refine ⟨0, And.intro ⟨rfl, Nat.zero_lt_one⟩ ?_⟩ | refine ⟨locE ⟨a, IntKind.i64.wrap (1 + Int.tmod (IntKind.i64.wrap (st[k] : Int)) 1000), 1⟩, rfl, ?_⟩ | refine Exists.intro false ?_ | (refine And.intro ?_ ?_; focus (simp; done)) | fail)
    all_goals (conv => whnf)
    · have hro := route_ok hvw hvd hv2 hra hat (hops := hops) h5
      have eR := c_Route at' v hv d (by omega) [⟨a, v.mem.getD (st[k] / 2 % v.mem.length) 0, 1⟩] (by simp) a hasz.1 hasz.2 (hops : Nat)
      generalize routeR at' v d [⟨a, v.mem.getD (st[k] / 2 % v.mem.length) 0, 1⟩] a (hops : Nat) = R at *
      obtain ⟨⟨R1, R2⟩, R3⟩ := R
      obtain ⟨hR3, hcs⟩ := hro
      simp only [] at hR3 hcs eR
      subst hR3
      rcases hcs with ⟨hkk, hX, hY⟩ | ⟨hkk, hX, hY⟩ | ⟨to, hkk, hnet, hin, h5', h4'⟩
      · cases hkk
        repeat' ((conv => whnf); first | refine And.intro (fun h => h) ?_ | refine dcond_t (by assumption) ?_ | refine dcond_f (by assumption) ?_ | (refine dcond_intro ?_ ?_ <;> intro h) | exact .refl | refine And.intro (by kernel_rfl) ?_ | refine And.intro ⟨fun h => h, fun h => h⟩ ?_ | refine .inl ⟨[_, _, _, .lst 4 (([⟨a, v.mem.getD (st[k] / 2 % v.mem.length) 0, 1⟩] : List Loc).map locE) false, _, _], _, ⟨.refl, .refl, .refl, dle_lst rfl, .refl, .refl, trivial⟩, eR, ?_⟩ | refine Exists.intro false ?_ | (refine And.intro ?_ ?_; focus (simp; done)) | fail)
        all_goals (conv => whnf)
        refine dle_bool ?_
        rw [hX, ← hY]
        simp
      · cases hkk
        repeat' ((conv => whnf); first | refine And.intro (fun h => h) ?_ | refine dcond_t (by assumption) ?_ | refine dcond_f (by assumption) ?_ | (refine dcond_intro ?_ ?_ <;> intro h) | exact .refl | refine And.intro (by kernel_rfl) ?_ | refine And.intro ⟨fun h => h, fun h => h⟩ ?_ | refine .inl ⟨[_, _, _, .lst 4 (([⟨a, v.mem.getD (st[k] / 2 % v.mem.length) 0, 1⟩] : List Loc).map locE) false, _, _], _, ⟨.refl, .refl, .refl, dle_lst rfl, .refl, .refl, trivial⟩, eR, ?_⟩ | refine .inl ⟨_, _, DleAll_refl _, e7, ?_⟩ | refine ⟨_, _, DleAll_refl _, fun _ => e7, ?_⟩ | refine ⟨_, _, DleAll_refl _, e7, ?_⟩ | refine Exists.intro false ?_ | (refine And.intro ?_ ?_; focus (simp; done)) | fail)
        all_goals (conv => whnf)
        refine dle_bool ?_
        rw [hX, ← hY]
        simp
      · cases hkk
        repeat' ((conv => whnf); first | refine And.intro (fun h => h) ?_ | refine dcond_t (by assumption) ?_ | refine dcond_f (by assumption) ?_ | (refine dcond_intro ?_ ?_ <;> intro h) | exact .refl | refine And.intro (by kernel_rfl) ?_ | refine And.intro ⟨fun h => h, fun h => h⟩ ?_ | refine .inl ⟨[_, _, _, .lst 4 (([⟨a, v.mem.getD (st[k] / 2 % v.mem.length) 0, 1⟩] : List Loc).map locE) false, _, _], _, ⟨.refl, .refl, .refl, dle_lst rfl, .refl, .refl, trivial⟩, eR, ?_⟩ | refine Exists.intro false ?_ | (refine And.intro ?_ ?_; focus (simp; done)) | fail)
        all_goals (conv => whnf)
        · exact absurd (of_decide_eq_true h) hnet
        · refine ⟨⟨hops + 1, R2⟩, ⟨hin, by simp only []; omega, fun h => ?_⟩, by simp only []; omega, ?_⟩
          · simp only [] at h ⊢
            exact h4' (by omega)
          · conv => whnf
            exact ⟨⟨.refl, .refl, .refl, .refl, .refl, .refl, .refl, dle_int (wrap_succ (by omega)), trivial⟩, ⟨.refl, .refl, .refl, trivial⟩, by rfl⟩
    · have hro := route_ok hvw hvd hv1 hra hat (hops := hops) h5
      have eR := c_Route at' v hv d (by omega) [⟨a, IntKind.i64.wrap (1 + Int.tmod (IntKind.i64.wrap (st[k] : Int)) 1000), 1⟩] (by simp) a hasz.1 hasz.2 (hops : Nat)
      generalize routeR at' v d [⟨a, IntKind.i64.wrap (1 + Int.tmod (IntKind.i64.wrap (st[k] : Int)) 1000), 1⟩] a (hops : Nat) = R at *
      obtain ⟨⟨R1, R2⟩, R3⟩ := R
      obtain ⟨hR3, hcs⟩ := hro
      simp only [] at hR3 hcs eR
      subst hR3
      rcases hcs with ⟨hkk, hX, hY⟩ | ⟨hkk, hX, hY⟩ | ⟨to, hkk, hnet, hin, h5', h4'⟩
      · cases hkk
        repeat' ((conv => whnf); first | refine And.intro (fun h => h) ?_ | refine dcond_t (by assumption) ?_ | refine dcond_f (by assumption) ?_ | (refine dcond_intro ?_ ?_ <;> intro h) | exact .refl | refine And.intro (by kernel_rfl) ?_ | refine And.intro ⟨fun h => h, fun h => h⟩ ?_ | refine .inl ⟨[_, _, _, .lst 4 (([⟨a, IntKind.i64.wrap (1 + Int.tmod (IntKind.i64.wrap (st[k] : Int)) 1000), 1⟩] : List Loc).map locE) false, _, _], _, ⟨.refl, .refl, .refl, dle_lst rfl, .refl, .refl, trivial⟩, eR, ?_⟩ | refine Exists.intro false ?_ | (refine And.intro ?_ ?_; focus (simp; done)) | fail)
        all_goals (conv => whnf)
        refine dle_bool ?_
        rw [hX, ← hY]
        simp
      · cases hkk
        repeat' ((conv => whnf); first | refine And.intro (fun h => h) ?_ | refine dcond_t (by assumption) ?_ | refine dcond_f (by assumption) ?_ | (refine dcond_intro ?_ ?_ <;> intro h) | exact .refl | refine And.intro (by kernel_rfl) ?_ | refine And.intro ⟨fun h => h, fun h => h⟩ ?_ | refine .inl ⟨[_, _, _, .lst 4 (([⟨a, IntKind.i64.wrap (1 + Int.tmod (IntKind.i64.wrap (st[k] : Int)) 1000), 1⟩] : List Loc).map locE) false, _, _], _, ⟨.refl, .refl, .refl, dle_lst rfl, .refl, .refl, trivial⟩, eR, ?_⟩ | refine .inl ⟨_, _, DleAll_refl _, e7, ?_⟩ | refine ⟨_, _, DleAll_refl _, fun _ => e7, ?_⟩ | refine ⟨_, _, DleAll_refl _, e7, ?_⟩ | refine Exists.intro false ?_ | (refine And.intro ?_ ?_; focus (simp; done)) | fail)
        all_goals (conv => whnf)
        refine dle_bool ?_
        rw [hX, ← hY]
        simp
      · cases hkk
        repeat' ((conv => whnf); first | refine And.intro (fun h => h) ?_ | refine dcond_t (by assumption) ?_ | refine dcond_f (by assumption) ?_ | (refine dcond_intro ?_ ?_ <;> intro h) | exact .refl | refine And.intro (by kernel_rfl) ?_ | refine And.intro ⟨fun h => h, fun h => h⟩ ?_ | refine .inl ⟨[_, _, _, .lst 4 (([⟨a, IntKind.i64.wrap (1 + Int.tmod (IntKind.i64.wrap (st[k] : Int)) 1000), 1⟩] : List Loc).map locE) false, _, _], _, ⟨.refl, .refl, .refl, dle_lst rfl, .refl, .refl, trivial⟩, eR, ?_⟩ | refine Exists.intro false ?_ | (refine And.intro ?_ ?_; focus (simp; done)) | fail)
        all_goals (conv => whnf)
        · exact absurd (of_decide_eq_true h) hnet
        · refine ⟨⟨hops + 1, R2⟩, ⟨hin, by simp only []; omega, fun h => ?_⟩, by simp only []; omega, ?_⟩
          · simp only [] at h ⊢
            exact h4' (by omega)
          · conv => whnf
            exact ⟨⟨.refl, .refl, .refl, .refl, .refl, .refl, .refl, dle_int (wrap_succ (by omega)), trivial⟩, ⟨.refl, .refl, .refl, trivial⟩, by rfl⟩
    · have hro := route_ok hvw hvd valL_nil hra hat (hops := hops) h5
      have eR := c_Route at' v hv d (by omega) [] (by simp) a hasz.1 hasz.2 (hops : Nat)
      generalize routeR at' v d [] a (hops : Nat) = R at *
      obtain ⟨⟨R1, R2⟩, R3⟩ := R
      obtain ⟨hR3, hcs⟩ := hro
      simp only [] at hR3 hcs eR
      subst hR3
      rcases hcs with ⟨hkk, hX, hY⟩ | ⟨hkk, hX, hY⟩ | ⟨to, hkk, hnet, hin, h5', h4'⟩
      · cases hkk
        repeat' ((conv => whnf); first | refine And.intro (fun h => h) ?_ | refine dcond_t (by assumption) ?_ | refine dcond_f (by assumption) ?_ | (refine dcond_intro ?_ ?_ <;> intro h) | exact .refl | refine And.intro (by kernel_rfl) ?_ | refine And.intro ⟨fun h => h, fun h => h⟩ ?_ | refine .inl ⟨[_, _, _, .lst 4 [] false, _, _], _, ⟨.refl, .refl, .refl, .nl, .refl, .refl, trivial⟩, eR, ?_⟩ | refine Exists.intro false ?_ | (refine And.intro ?_ ?_; focus (simp; done)) | fail)
        all_goals (conv => whnf)
        refine dle_bool ?_
        rw [hX, ← hY]
        simp
      · cases hkk
        repeat' ((conv => whnf); first | refine And.intro (fun h => h) ?_ | refine dcond_t (by assumption) ?_ | refine dcond_f (by assumption) ?_ | (refine dcond_intro ?_ ?_ <;> intro h) | exact .refl | refine And.intro (by kernel_rfl) ?_ | refine And.intro ⟨fun h => h, fun h => h⟩ ?_ | refine .inl ⟨[_, _, _, .lst 4 [] false, _, _], _, ⟨.refl, .refl, .refl, .nl, .refl, .refl, trivial⟩, eR, ?_⟩ | refine .inl ⟨_, _, DleAll_refl _, e7, ?_⟩ | refine ⟨_, _, DleAll_refl _, fun _ => e7, ?_⟩ | refine ⟨_, _, DleAll_refl _, e7, ?_⟩ | refine Exists.intro false ?_ | (refine And.intro ?_ ?_; focus (simp; done)) | fail)
        all_goals (conv => whnf)
        refine dle_bool ?_
        rw [hX, ← hY]
        simp
      · cases hkk
        repeat' ((conv => whnf); first | refine And.intro (fun h => h) ?_ | refine dcond_t (by assumption) ?_ | refine dcond_f (by assumption) ?_ | (refine dcond_intro ?_ ?_ <;> intro h) | exact .refl | refine And.intro (by kernel_rfl) ?_ | refine And.intro ⟨fun h => h, fun h => h⟩ ?_ | refine .inl ⟨[_, _, _, .lst 4 [] false, _, _], _, ⟨.refl, .refl, .refl, .nl, .refl, .refl, trivial⟩, eR, ?_⟩ | refine Exists.intro false ?_ | (refine And.intro ?_ ?_; focus (simp; done)) | fail)
        all_goals (conv => whnf)
        · exact absurd (of_decide_eq_true h) hnet
        · refine ⟨⟨hops + 1, R2⟩, ⟨hin, by simp only []; omega, fun h => ?_⟩, by simp only []; omega, ?_⟩
          · simp only [] at h ⊢
            exact h4' (by omega)
          · conv => whnf
            exact ⟨⟨.refl, .refl, .refl, .refl, .refl, .refl, .refl, dle_int (wrap_succ (by omega)), trivial⟩, ⟨.refl, .refl, .refl, trivial⟩, by rfl⟩
    · exfalso
      have h := of_decide_eq_false h
      simp only [] at h
      omega
theorem law4 (dvs : List DV) (h : DatAll tt 6 [24, 25, 28, 5, 38] dvs) : Ret Try.prog 4 dvs (.v (.bool true)) := by
  obtain ⟨a2, _, rfl, h2, a3, _, rfl, h3, a5, _, rfl, h5, _, _, rfl, ⟨s, rfl, hs⟩, a4, _, rfl, h4, rfl⟩ := h
  obtain ⟨v, rfl, hv⟩ := dat_view (n := 3) h2
  obtain ⟨d, rfl, hd⟩ := dat_recs (n := 2) h3
  obtain ⟨a, rfl⟩ := dat_ref (n := 4) h5
  obtain ⟨q, rfl, hq, hqb⟩ := dat_u8b (n := 4) h4
  have h1 := bounds_u8 (by exact hs)
  obtain ⟨s, rfl⟩ := Int.eq_ofNat_of_zero_le (a := s) (by omega)
  exact r4 v hv d hd a s (by omega) q hq hqb
end Go.Proofs.Ythcclghmeighlaa

set_option linter.unusedSimpArgs false
set_option linter.unusedVariables false
set_option maxRecDepth 100000
namespace Go.Proofs.Ythcclghmeighlaa
open Go.Lift
/-! RouteLearns -/
def bE16 (n : Nat) : List DV := [.v (.int .u16 n)]
theorem c_r15_Same_refl (A : List Loc) (hA : A.length ≤ maxLen) : Ret Try.prog 21 [.lst 4 (A.map locE) false, .lst 4 (A.map locE) false] (.v (.bool true)) := by
  have hA' : A.length ≤ 9223372036854775807 := hA
  refine ret_of_body (fn := Try.f21) (c := Try.f21.body.getD .skip) hm hT (by kernel_rfl) Try.func21 (by kernel_rfl) (by kernel_rfl) (by kernel_rfl) (by kernel_rfl) ?_
  repeat' ((conv => whnf); first | refine And.intro (fun h => h) ?_ | refine dcond_t (by assumption) ?_ | refine dcond_f (by assumption) ?_ | (refine dcond_intro ?_ ?_ <;> intro h) | exact .refl | refine And.intro (by kernel_rfl) ?_ | refine And.intro ⟨fun h => h, fun h => h⟩ ?_ | refine Exists.intro false ?_ | (refine And.intro ?_ ?_; focus (simp; done)) | fail)
  · simp at h
  · clear h
    repeat' ((conv => whnf); first | refine And.intro (fun h => h) ?_ | refine dcond_t (by assumption) ?_ | refine dcond_f (by assumption) ?_ | (refine dcond_intro ?_ ?_ <;> intro h) | exact .refl | refine And.intro (by kernel_rfl) ?_ | refine And.intro ⟨fun h => h, fun h => h⟩ ?_ | refine Exists.intro false ?_ | (refine And.intro ?_ ?_; focus (simp; done)) | fail)
    all_goals (conv => whnf)
    refine ⟨Nat, fun i => ⟨[(0, .lst 4 (A.map locE) false), (1, .lst 4 (A.map locE) false), (5, i64 i)], []⟩, fun i => i ≤ A.length, fun i => A.length - i, [], ⟨0, Nat.zero_le _, ?_⟩, ?_⟩
    · exact ⟨by repeat' ((conv => whnf); first | exact trivial | refine And.intro (by (conv => arg 1; whnf); first | (with_reducible exact .refl) | exact dle_int (wrap_succ (by omega)) | exact .refl) ?_), by repeat' ((conv => whnf); first | exact trivial | refine And.intro ?_ ?_ | exact .refl), rfl⟩
    · intro i hi
      repeat' ((conv => whnf); first | refine And.intro (fun h => h) ?_ | refine dcond_t (by assumption) ?_ | refine dcond_f (by assumption) ?_ | (refine dcond_intro ?_ ?_ <;> intro h) | exact .refl | refine And.intro (by kernel_rfl) ?_ | refine And.intro ⟨fun h => h, fun h => h⟩ ?_ | refine Exists.intro false ?_ | (refine And.intro ?_ ?_; focus (simp; done)) | fail)
      · have hlt : i < A.length := by simpa using h
        clear h
        repeat' ((conv => whnf); first | refine And.intro (fun h => h) ?_ | refine dcond_t (by assumption) ?_ | refine dcond_f (by assumption) ?_ | (refine dcond_intro ?_ ?_ <;> intro h) | exact .refl | refine And.intro (by kernel_rfl) ?_ | refine And.intro ⟨fun h => h, fun h => h⟩ ?_ | refine ⟨_, _, And.intro ⟨rfl, get_map hlt⟩ ?_⟩ | refine Exists.intro false ?_ | (refine And.intro ?_ ?_; focus (simp; done)) | fail)
        · simp at h
        · conv => whnf
          refine ⟨i + 1, hlt, by simp only []; omega, ?_⟩
          conv => whnf
          exact ⟨⟨.refl, .refl, dle_int (wrap_succ (by omega)), trivial⟩, trivial, by rfl⟩
theorem eqr_ne {a b : Ref} : refEq a b = false ↔ a ≠ b := by
  rw [← Bool.not_eq_true, refEq_iff]
theorem valL_iff {c : List Loc} : valL c = true ↔ c.length ≤ 16 ∧ (∀ x ∈ c, entB x = true) ∧ c.Pairwise fun x y => x.ref ≠ y.ref := by
  unfold valL
  by_cases h16 : c.length ≤ 16
  · rw [decide_eq_false (show ¬ ((c.length : Int) > 16) by omega), cond_false, allB_true]
    constructor
    · intro h
      refine ⟨h16, fun x hx => ?_, ?_⟩
      · obtain ⟨i, hi, rfl⟩ := List.getElem_of_mem hx
        have h1 := h i hi
        have hg : c.getD i loc0 = c[i] := by simp [hi]
        unfold okL at h1
        rw [hg, Bool.and_eq_true] at h1
        exact h1.1
      · rw [List.pairwise_iff_getElem]
        intro i j hi hj hij he
        have h1 := h j hj
        have hg : c.getD j loc0 = c[j] := by simp [hj]
        unfold okL at h1
        rw [hg, Bool.and_eq_true, decide_eq_true_eq] at h1
        have h2 := h1.2
        unfold ixL at h2
        cases hid : idL c c[j].ref with
        | none =>
          rw [hid] at h2
          simp only [] at h2
          omega
        | some k =>
          rw [hid] at h2
          simp only [] at h2
          have hk := List.findIdx?_eq_some_iff_getElem.1 hid
          obtain ⟨hkl, _, hk2⟩ := hk
          have hkj : k = j := by omega
          subst hkj
          have := hk2 i hij
          rw [refEq_iff.2 he] at this
          simp at this
    · rintro ⟨_, h1, h2⟩ i hi
      have hg : c.getD i loc0 = c[i] := by simp [hi]
      have hix : ixL c c[i].ref = (i : Nat) := ixL_some hi (refEq_iff.2 rfl) fun j hj hji => eqr_ne.2 (List.pairwise_iff_getElem.1 h2 j i hj hi hji)
      unfold okL
      rw [hg, h1 _ (List.getElem_mem hi), hix]
      simp
  · rw [decide_eq_true (show (c.length : Int) > 16 by omega), cond_true]
    constructor
    · intro h
      cases h
    · rintro ⟨h, _⟩
      exact absurd h h16
def wasAt (c : List Loc) (r : Ref) : Nat → Int
  | 0 => 0
  | k + 1 => if refEq (c.getD k loc0).ref r = true then (c.getD k loc0).ep else wasAt c r k
theorem was_none {c : List Loc} {r : Ref} : ∀ k, k ≤ c.length → (∀ j (h : j < c.length), j < k → refEq c[j].ref r = false) → wasAt c r k = 0
  | 0, _, _ => rfl
  | k + 1, hk, h => by
    have hg : c.getD k loc0 = c[k] := by simp [show k < c.length by omega]
    rw [wasAt, hg, h k (by omega) (by omega), if_neg (by simp)]
    exact was_none k (by omega) (fun j hj hjk => h j hj (by omega))
theorem was_some {c : List Loc} {r : Ref} {i : Nat} (hi : i < c.length) (he : c[i].ref = r) (hp : c.Pairwise fun x y => x.ref ≠ y.ref) : ∀ k, i < k → k ≤ c.length → wasAt c r k = c[i].ep
  | 0, h, _ => by omega
  | k + 1, h, hk => by
    have hkl : k < c.length := by omega
    have hg : c.getD k loc0 = c[k] := by simp [hkl]
    rw [wasAt, hg]
    rcases Nat.lt_succ_iff_lt_or_eq.1 h with h1 | rfl
    · have hne : refEq c[k].ref r = false := eqr_ne.2 (fun e => List.pairwise_iff_getElem.1 hp i k hi hkl h1 (he.trans e.symm))
      rw [hne, if_neg (by simp)]
      exact was_some hi he hp k h1 (by omega)
    · rw [refEq_iff.2 he, if_pos rfl]
theorem ixL_cases (c : List Loc) (r : Ref) : (ixL c r = -1 ∧ ∀ j (h : j < c.length), refEq c[j].ref r = false) ∨ ∃ i, ∃ h : i < c.length, ixL c r = (i : Nat) ∧ c[i].ref = r := by
  unfold ixL
  cases hid : idL c r with
  | none =>
    refine .inl ⟨rfl, fun j hj => ?_⟩
    have := List.findIdx?_eq_none_iff.1 hid c[j] (List.getElem_mem hj)
    exact this
  | some i =>
    obtain ⟨h1, h2, _⟩ := List.findIdx?_eq_some_iff_getElem.1 hid
    exact .inr ⟨i, h1, rfl, refEq_iff.1 h2⟩
theorem lrn_iff {q e : Loc} : lrnP q e = true ↔ e.ref ≠ q.ref := by
  have : lrnP q e = !refEq e.ref q.ref := rfl
  rw [this, Bool.not_eq_true', eqr_ne]
theorem filter_split {α : Type} (p : α → Bool) : ∀ l : List α, l.length = (l.filter p).length + (l.filter fun x => !p x).length
  | [] => rfl
  | x :: l => by
    have ih := filter_split p l
    cases h : p x <;> simp [List.filter_cons, h] <;> omega
theorem learn_ok {c : List Loc} (hc : valL c = true) {e : Loc} (he : entB e = true) :
    valL (learnR c e) = true ∧ c.length ≤ (learnR c e).length ∧ 0 < (learnR c e).length ∧ (learnR c e).length ≤ 16 ∧ (lookR (learnR c e) e.ref).2 = true ∧
    ((wasAt c e.ref c.length > e.ep ∧ learnR c e = c) ∨ (wasAt c e.ref c.length ≤ e.ep ∧ (lookR (learnR c e) e.ref).1 = e.mem ∧ (learnR c e).getD 0 loc0 = e)) := by
  obtain ⟨h16, hent, hp⟩ := valL_iff.1 hc
  have hep : e.ep ≥ 1 := by
    unfold entB at he
    simp only [Bool.and_eq_true, decide_eq_true_eq] at he
    exact he.1.2
  have hd : learnR c e = bif decide (ixL c e.ref ≥ 0) && decide ((c.getD (ixL c e.ref).toNat loc0).ep > e.ep) then c else e :: (c.filter (lrnP e)).take 15 := by
    unfold learnR
    rw [hc, he]
    rfl
  have key : (ixL c e.ref ≥ 0 ∧ (c.getD (ixL c e.ref).toNat loc0).ep > e.ep ∧ wasAt c e.ref c.length > e.ep) ∨ (learnR c e = e :: (c.filter (lrnP e)).take 15 ∧ wasAt c e.ref c.length ≤ e.ep ∧ c.length ≤ 1 + min (c.filter (lrnP e)).length 15) := by
    rcases ixL_cases c e.ref with ⟨h1, h2⟩ | ⟨i, hi, h1, h2⟩
    · refine .inr ⟨?_, ?_, ?_⟩
      · rw [hd, h1]
        rfl
      · rw [was_none c.length (Nat.le_refl _) (fun j hj _ => h2 j hj)]
        omega
      · have : c.filter (lrnP e) = c := List.filter_eq_self.2 fun x hx => by
          obtain ⟨j, hj, rfl⟩ := List.getElem_of_mem hx
          exact lrn_iff.2 (eqr_ne.1 (h2 j hj))
        rw [this]
        omega
    · have hg : c.getD i loc0 = c[i] := by simp [hi]
      have hw := was_some hi h2 hp c.length hi (Nat.le_refl _)
      by_cases hgt : c[i].ep > e.ep
      · refine .inl ⟨by omega, ?_, by omega⟩
        rw [h1, Int.toNat_natCast, hg]
        exact hgt
      · refine .inr ⟨?_, by omega, ?_⟩
        · rw [hd, h1, Int.toNat_natCast, hg, decide_eq_false hgt, Bool.and_false, cond_false]
        · have hfl : c.length ≤ (c.filter (lrnP e)).length + 1 := by
            have h3 : (c.filter fun x => !lrnP e x).length ≤ 1 := by
              have hall : ∀ x ∈ c.filter (fun x => !lrnP e x), x.ref = e.ref := fun x hx => by
                have := (List.mem_filter.1 hx).2
                rw [Bool.not_eq_true'] at this
                exact Classical.byContradiction fun hne => by rw [lrn_iff.2 hne] at this; cases this
              have hpf : (c.filter fun x => !lrnP e x).Pairwise fun x y => x.ref ≠ y.ref := hp.sublist (List.filter_sublist ..)
              generalize (c.filter fun x => !lrnP e x) = Z at *
              match Z, hall, hpf with
              | [], _, _ => simp
              | [_], _, _ => simp
              | x :: y :: _, hall, hpf =>
                exact absurd ((hall x (by simp)).trans (hall y (by simp)).symm) ((List.pairwise_cons.1 hpf).1 y (by simp))
            have h4 := filter_split (lrnP e) c
            omega
          omega
  have hlook : ∀ n : List Loc, valL n = true → e.ref ∈ n.map (·.ref) → (lookR n e.ref).2 = true := fun n hn hm => by
    unfold lookR
    rcases ixL_cases n e.ref with ⟨h1, h2⟩ | ⟨i, hi, h1, h2⟩
    · obtain ⟨x, hx, hxr⟩ := List.mem_map.1 hm
      obtain ⟨j, hj, rfl⟩ := List.getElem_of_mem hx
      have := h2 j hj
      rw [refEq_iff.2 hxr] at this
      cases this
    · rw [hn, h1, decide_eq_false (by omega)]
      rfl
  rcases key with ⟨k1, k2, k3⟩ | ⟨k1, k2, k3⟩
  · have hn : learnR c e = c := by
      rw [hd, decide_eq_true k1, decide_eq_true k2]
      rfl
    have hin : e.ref ∈ c.map (·.ref) := by
      rcases ixL_cases c e.ref with ⟨h1, _⟩ | ⟨i, hi, h1, h2⟩
      · omega
      · exact List.mem_map.2 ⟨c[i], List.getElem_mem hi, h2⟩
    have hc0 : 0 < c.length := by
      obtain ⟨x, hx, _⟩ := List.mem_map.1 hin
      exact List.length_pos_of_mem hx
    rw [hn]
    exact ⟨hc, Nat.le_refl _, hc0, h16, hlook c hc hin, .inl ⟨k3, rfl⟩⟩
  · have hfl2 := List.length_filter_le (lrnP e) c
    have hv : valL (learnR c e) = true := by
      rw [k1]
      refine valL_iff.2 ⟨by simp; omega, fun x hx => ?_, ?_⟩
      · rcases List.mem_cons.1 hx with rfl | hx
        · exact he
        · exact hent x (List.mem_filter.1 (List.mem_of_mem_take hx)).1
      · refine List.pairwise_cons.2 ⟨fun x hx => ?_, ?_⟩
        · exact fun h => (lrn_iff.1 (List.mem_filter.1 (List.mem_of_mem_take hx)).2) h.symm
        · exact (hp.sublist (List.filter_sublist ..)).sublist (List.take_sublist ..)
    have hin : e.ref ∈ (learnR c e).map (·.ref) := by
      rw [k1]
      simp
    refine ⟨hv, ?_, ?_, ?_, hlook _ hv hin, .inr ⟨k2, ?_, ?_⟩⟩
    · rw [k1]
      simp
      omega
    · rw [k1]
      simp
    · rw [k1]
      simp
      omega
    · have hix : ixL (learnR c e) e.ref = (0 : Nat) := by
        rw [k1]
        exact ixL_some (by simp) (refEq_iff.2 rfl) (by omega)
      unfold lookR
      rw [hv, hix, decide_eq_false (by omega), k1]
      rfl
    · rw [k1]
      rfl
def lrE (x : Nat) : Loc := ⟨⟨⟨#[116]⟩, ⟨#[UInt8.ofNat (97 + x % 24)]⟩⟩, IntKind.i64.wrap (1 + Int.tmod (IntKind.i64.wrap (IntKind.u16.wrap (Int.tdiv (x : Int) 32))) 9), IntKind.i64.wrap (1 + Int.tmod (IntKind.i64.wrap (IntKind.u16.wrap (Int.tdiv (x : Int) 512))) 7)⟩
theorem wrap_u16' {n : Int} (h1 : 0 ≤ n) (h2 : n < 65536) : IntKind.u16.wrap n = n := by
  simp only [IntKind.wrap, IntKind.bits, IntKind.signed]
  simp
  omega
theorem lrE_ok {x : Nat} (h : x ≤ 65535) : entB (lrE x) = true := by
  have e1 : Int.tdiv (x : Int) 32 = ((x / 32 : Nat) : Int) := (Int.ofNat_tdiv x 32).symm
  have e2 : Int.tdiv (x : Int) 512 = ((x / 512 : Nat) : Int) := (Int.ofNat_tdiv x 512).symm
  have e3 : Int.tmod ((x / 32 : Nat) : Int) 9 = ((x / 32 % 9 : Nat) : Int) := (Int.ofNat_tmod (x / 32) 9).symm
  have e4 : Int.tmod ((x / 512 : Nat) : Int) 7 = ((x / 512 % 7 : Nat) : Int) := (Int.ofNat_tmod (x / 512) 7).symm
  have hr : refB (lrE x).ref = true := rfl
  have hm : (lrE x).mem = 1 + ((x / 32 % 9 : Nat) : Int) := by
    show IntKind.i64.wrap (1 + Int.tmod (IntKind.i64.wrap (IntKind.u16.wrap (Int.tdiv (x : Int) 32))) 9) = _
    rw [e1, wrap_u16' (by omega) (by omega), wrap_i64 (n := ((x / 32 : Nat) : Int)) (by omega) (by omega), e3, wrap_i64 (by omega) (by omega)]
  have hp : (lrE x).ep = 1 + ((x / 512 % 7 : Nat) : Int) := by
    show IntKind.i64.wrap (1 + Int.tmod (IntKind.i64.wrap (IntKind.u16.wrap (Int.tdiv (x : Int) 512))) 7) = _
    rw [e2, wrap_u16' (by omega) (by omega), wrap_i64 (n := ((x / 512 : Nat) : Int)) (by omega) (by omega), e4, wrap_i64 (by omega) (by omega)]
  unfold entB
  rw [hr, hm, hp, decide_eq_true (by omega), decide_eq_true (by omega), decide_eq_true (by omega), decide_eq_true (by omega)]
  rfl
theorem c_bytes (x : Nat) : IntKind.u8.wrap (97 + IntKind.u8.wrap (Int.tmod (x : Int) 24)) = ((UInt8.ofNat (97 + x % 24)).toNat : Int) := by
  have e : Int.tmod (x : Int) 24 = ((x % 24 : Nat) : Int) := (Int.ofNat_tmod x 24).symm
  have h : x % 24 < 24 := Nat.mod_lt _ (by omega)
  rw [e]
  generalize x % 24 = q at *
  simp only [IntKind.wrap, IntKind.bits, IntKind.signed]
  simp
theorem r5 (l : List Nat) (hl : l.length ≤ maxLen) (hlb : ∀ x ∈ l, x ≤ 65535) : Ret Try.prog 5 [.lst 1 (l.map bE16) false] (.v (.bool true)) := by
  refine ret_of_body (fn := Try.f5) (c := Try.f5.body.getD .skip) hm hT (by kernel_rfl) Try.func5 (by kernel_rfl) (by kernel_rfl) (by kernel_rfl) (by kernel_rfl) ?_
  repeat' ((conv => whnf); first | refine And.intro (fun h => h) ?_ | refine dcond_t (by assumption) ?_ | refine dcond_f (by assumption) ?_ | (refine dcond_intro ?_ ?_ <;> intro h) | exact .refl | refine And.intro (by kernel_rfl) ?_ | refine And.intro ⟨fun h => h, fun h => h⟩ ?_ | refine .inl ⟨_, _, DleAll_refl _, c_law15_awake, ?_⟩ | refine ⟨_, _, DleAll_refl _, fun _ => c_law15_awake, ?_⟩ | refine ⟨_, _, DleAll_refl _, c_law15_awake, ?_⟩ | refine Exists.intro false ?_ | (refine And.intro ?_ ?_; focus (simp; done)) | fail)
  have hl100 : l.length ≤ 100 := by
    have := of_decide_eq_false h
    rw [List.length_map] at this
    omega
  clear h
  conv => whnf
  refine ⟨Nat × List Loc, fun x => ⟨[(0, .lst 1 (l.map bE16) false), (3, .lst 4 (x.2.map locE) false), (4, i64 x.1)], []⟩, fun x => x.1 ≤ l.length ∧ valL x.2 = true, fun x => l.length - x.1, [], ⟨⟨0, []⟩, ⟨Nat.zero_le _, valL_nil⟩, ?_⟩, ?_⟩
  · conv => whnf
    exact ⟨⟨.refl, .nl, .refl, trivial⟩, trivial, by rfl⟩
  · intro ⟨i, c⟩ ⟨hi, hc⟩
    simp only [] at hi hc
    have h16 := (valL_iff.1 hc).1
    repeat' ((conv => whnf); first | refine And.intro (fun h => h) ?_ | refine dcond_t (by assumption) ?_ | refine dcond_f (by assumption) ?_ | (refine dcond_intro ?_ ?_ <;> intro h) | exact .refl | refine And.intro (by kernel_rfl) ?_ | refine And.intro ⟨fun h => h, fun h => h⟩ ?_ | refine Exists.intro false ?_ | (refine And.intro ?_ ?_; focus (simp; done)) | fail)
    · have hlt : i < l.length := by simpa using h
      clear h
      have hxb := hlb l[i] (List.getElem_mem hlt)
      have he := lrE_ok hxb
      have hby := c_bytes l[i]
      repeat' ((conv => whnf); first | refine And.intro (fun h => h) ?_ | refine dcond_t (by assumption) ?_ | refine dcond_f (by assumption) ?_ | (refine dcond_intro ?_ ?_ <;> intro h) | exact .refl | refine And.intro (by kernel_rfl) ?_ | refine And.intro ⟨fun h => h, fun h => h⟩ ?_ | refine ⟨_, _, And.intro ⟨rfl, get_map hlt⟩ ?_⟩ | refine And.intro (by decide) ?_ | refine ⟨[UInt8.ofNat (97 + l[i] % 24)], And.intro (congrArg (fun x => [[DV.v (Value.int .u8 x)]]) hby) ?_⟩ | refine Exists.intro false ?_ | (refine And.intro ?_ ?_; focus (simp; done)) | fail)
      all_goals (conv => whnf)
      refine ⟨Nat, fun k => ⟨[(0, .lst 1 (l.map bE16) false), (3, .lst 4 (c.map locE) false), (4, i64 i), (5, .lp 0 0), (6, i64 (wasAt c (lrE l[i]).ref k)), (7, i64 k)], [.cells 48 (locE (lrE l[i]))]⟩, fun k => k ≤ c.length, fun k => c.length - k, [], ⟨0, Nat.zero_le _, ?_⟩, ?_⟩
      · conv => whnf
        exact ⟨⟨.refl, .refl, .refl, .refl, .refl, .refl, trivial⟩, ⟨.refl, trivial⟩, by rfl⟩
      · clear hby
        generalize lrE l[i] = e at *
        intro k hk
        repeat' ((conv => whnf); first | refine And.intro (fun h => h) ?_ | refine dcond_t (by assumption) ?_ | refine dcond_f (by assumption) ?_ | (refine dcond_intro ?_ ?_ <;> intro h) | exact .refl | refine And.intro (by kernel_rfl) ?_ | refine And.intro ⟨fun h => h, fun h => h⟩ ?_ | refine Exists.intro false ?_ | (refine And.intro ?_ ?_; focus (simp; done)) | fail)
        · have hkl : k < c.length := by simpa using h
          clear h
          have hg : c.getD k loc0 = c[k] := by simp [hkl]
          have hs : wasAt c e.ref (k + 1) = if refEq c[k].ref e.ref = true then c[k].ep else wasAt c e.ref k := by rw [wasAt, hg]
          have her : refEq c[k].ref e.ref = (decide (c[k].ref.ty = e.ref.ty) && (decide (c[k].ref.key = e.ref.key) && true)) := rfl
          repeat' ((conv => whnf); first | refine And.intro (fun h => h) ?_ | refine dcond_t (by assumption) ?_ | refine dcond_f (by assumption) ?_ | (refine dcond_intro ?_ ?_ <;> intro h) | exact .refl | refine And.intro (by kernel_rfl) ?_ | refine And.intro ⟨fun h => h, fun h => h⟩ ?_ | refine ⟨_, _, And.intro ⟨rfl, get_map hkl⟩ ?_⟩ | refine Exists.intro false ?_ | (refine And.intro ?_ ?_; focus (simp; done)) | fail)
          all_goals (conv => whnf)
          · rw [if_pos (her.trans h)] at hs
            refine ⟨k + 1, hkl, by simp only []; omega, ?_⟩
            conv => whnf
            exact ⟨⟨.refl, .refl, .refl, .refl, dle_int hs.symm, dle_int (wrap_succ (by omega)), trivial⟩, ⟨.refl, trivial⟩, by rfl⟩
          · rw [if_neg (by rw [her, h]; simp)] at hs
            refine ⟨k + 1, hkl, by simp only []; omega, ?_⟩
            conv => whnf
            exact ⟨⟨.refl, .refl, .refl, .refl, dle_int hs.symm, dle_int (wrap_succ (by omega)), trivial⟩, ⟨.refl, trivial⟩, by rfl⟩
        · have : k = c.length := by
            simp at h
            omega
          subst this
          clear h
          obtain ⟨g1, g2, g3, g4, g5, g6⟩ := learn_ok hc he
          have e1 := c_Learn c (by omega) e
          generalize learnR c e = n at *
          have e2 := c_routing_Lookup n (by omega) e.ref
          have e3 := c_routing_Valid n (by omega)
          have hg0 : (n.map locE)[0]? = some (locE (n.getD 0 loc0)) := by simp [g3]
          generalize wasAt c e.ref c.length = w at *
          generalize lookR n e.ref = L at *
          obtain ⟨L1, L2⟩ := L
          simp only [] at g5 g6 e2
          rw [g1] at e3
          subst g5
          rcases g6 with ⟨g6, g7⟩ | ⟨g6, g7, g8⟩
          · subst g7
            have e4 := c_r15_Same_refl n (by simp only [maxLen]; omega)
            repeat' ((conv => whnf); first | refine And.intro (fun h => h) ?_ | refine dcond_t (by assumption) ?_ | refine dcond_f (by assumption) ?_ | (refine dcond_intro ?_ ?_ <;> intro h) | exact .refl | refine And.intro (by kernel_rfl) ?_ | refine And.intro ⟨fun h => h, fun h => h⟩ ?_ | refine .inl ⟨_, _, DleAll_refl _, e1, ?_⟩ | refine ⟨_, _, DleAll_refl _, fun _ => e1, ?_⟩ | refine ⟨_, _, DleAll_refl _, e1, ?_⟩ | refine .inl ⟨_, _, DleAll_refl _, e2, ?_⟩ | refine ⟨_, _, DleAll_refl _, fun _ => e2, ?_⟩ | refine ⟨_, _, DleAll_refl _, e2, ?_⟩ | refine .inl ⟨_, _, DleAll_refl _, e3, ?_⟩ | refine ⟨_, _, DleAll_refl _, fun _ => e3, ?_⟩ | refine ⟨_, _, DleAll_refl _, e3, ?_⟩ | refine .inl ⟨_, _, DleAll_refl _, e4, ?_⟩ | refine ⟨_, _, DleAll_refl _, fun _ => e4, ?_⟩ | refine ⟨_, _, DleAll_refl _, e4, ?_⟩ | refine ⟨0, locE (n.getD 0 loc0), And.intro ⟨⟨fun h => h, fun h => h⟩, fun _ => ⟨rfl, hg0⟩⟩ ?_⟩ | refine ⟨0, locE (n.getD 0 loc0), And.intro ⟨fun h => h, fun _ => ⟨rfl, hg0⟩⟩ ?_⟩ | refine Exists.intro false ?_ | (refine And.intro ?_ ?_; focus (simp; done)) | fail)
            all_goals (conv => whnf)
            · exfalso
              simp at h
              omega
            · exfalso
              rw [decide_eq_false (show ¬ w ≤ e.ep by omega)] at h
              simp at h
            · refine ⟨⟨i + 1, n⟩, ⟨hlt, g1⟩, by simp only []; omega, ?_⟩
              conv => whnf
              exact ⟨⟨.refl, .refl, dle_int (wrap_succ (by omega)), trivial⟩, trivial, by rfl⟩
          · have hNo : ∀ x : Bool, (x && decide (e.ep < w)) = true → False := fun x h => by
              rw [decide_eq_false (show ¬ e.ep < w by omega)] at h
              simp at h
            subst g7
            rw [g8] at hg0
            repeat' ((conv => whnf); first | refine And.intro (fun h => h) ?_ | refine dcond_t (by assumption) ?_ | refine dcond_f (by assumption) ?_ | (refine dcond_intro ?_ ?_ <;> intro h) | exact .refl | refine And.intro (by kernel_rfl) ?_ | refine And.intro ⟨fun h => h, fun h => h⟩ ?_ | refine .inl ⟨_, _, DleAll_refl _, e1, ?_⟩ | refine ⟨_, _, DleAll_refl _, fun _ => e1, ?_⟩ | refine ⟨_, _, DleAll_refl _, e1, ?_⟩ | refine .inl ⟨_, _, DleAll_refl _, e2, ?_⟩ | refine ⟨_, _, DleAll_refl _, fun _ => e2, ?_⟩ | refine ⟨_, _, DleAll_refl _, e2, ?_⟩ | refine .inl ⟨_, _, DleAll_refl _, e3, ?_⟩ | refine ⟨_, _, DleAll_refl _, fun _ => e3, ?_⟩ | refine ⟨_, _, DleAll_refl _, e3, ?_⟩ | refine ⟨0, locE e, And.intro ⟨⟨fun h => h, fun h => h⟩, fun _ => ⟨rfl, hg0⟩⟩ ?_⟩ | refine ⟨0, locE e, And.intro ⟨fun h => h, fun _ => ⟨rfl, hg0⟩⟩ ?_⟩ | refine ⟨_, .v (.bool true), DleAll_refl _, fun hg => (hNo _ hg).elim, ?_⟩ | refine Exists.intro false ?_ | (refine And.intro ?_ ?_; focus (simp; done)) | fail)
            all_goals (conv => whnf)
            · exfalso
              simp at h
              omega
            · exfalso
              simp at h
            · refine ⟨⟨i + 1, n⟩, ⟨hlt, g1⟩, by simp only []; omega, ?_⟩
              conv => whnf
              exact ⟨⟨.refl, .refl, dle_int (wrap_succ (by omega)), trivial⟩, trivial, by rfl⟩
theorem dat_u16s {n : Nat} {r : List DV} (h : Dat tt (n + 2) 51 r) : ∃ l : List Nat, r = [.lst 1 (l.map bE16) false] ∧ l.length ≤ maxLen ∧ ∀ x ∈ l, x ≤ 65535 := by
  obtain ⟨es, rfl, hl, hes⟩ := h
  obtain ⟨d, rfl, hd⟩ := list_data (f := bE16) (Q := fun x => x ≤ 65535) (fun r hr => by
    obtain ⟨i, rfl, hi⟩ := hes r hr
    have hb := bounds_u16 (by exact hi)
    exact ⟨i.toNat, by simp only [bE16]; rw [Int.toNat_of_nonneg (by omega)], by omega⟩)
  exact ⟨d, rfl, by simpa using hl, hd⟩
theorem law5 (dvs : List DV) (h : DatAll tt 6 [51] dvs) : Ret Try.prog 5 dvs (.v (.bool true)) := by
  obtain ⟨a1, _, rfl, h1, rfl⟩ := h
  obtain ⟨l, rfl, hl, hlb⟩ := dat_u16s (n := 4) h1
  exact r5 l hl hlb
end Go.Proofs.Ythcclghmeighlaa
