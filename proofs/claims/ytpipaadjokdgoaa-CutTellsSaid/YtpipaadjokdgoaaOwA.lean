/- The laws of this seat, part OwA: contracts of the functions, plain laws. No conditions. -/
import Derived.Test.YtpipaadjokdgoaaRows
import Derived.Test.YtpipaadjokdgoaaLfD
set_option linter.unusedSimpArgs false
set_option linter.unusedVariables false
set_option maxRecDepth 100000
namespace Go.Proofs.Ytpipaadjokdgoaa
open Go.Lift
def tt : TT := [(2, ⟨1, 8, false, [.v (.int .i64 0)], .int .i64⟩),
  (3, ⟨1, 8, false, [.v (.int .i64 0)], .int .i64⟩),
  (4, ⟨1, 1, false, [.v (.bool false)], .bool⟩),
  (5, ⟨1, 1, false, [.v (.int .u8 0)], .int .u8⟩),
  (9, ⟨1, 16, false, [.v (.string ⟨#[]⟩)], .str⟩),
  (21, ⟨1, 4, false, [.v (.int .i32 0)], .int .i32⟩),
  (22, ⟨1, 24, false, [.nl], .slc 3⟩),
  (23, ⟨2, 32, true, [.v (.int .i64 0), .nl], .st [(3, 0), (22, 1)]⟩),
  (24, ⟨2, 32, true, [.v (.int .i64 0), .nl], .st [(3, 0), (22, 1)]⟩),
  (25, ⟨1, 24, false, [.nl], .slc 48⟩),
  (28, ⟨1, 24, false, [.nl], .slc 31⟩),
  (30, ⟨3, 24, true, [.v (.int .i64 0), .v (.int .i64 0), .v (.int .i64 0)], .st [(3, 0), (3, 1), (3, 2)]⟩),
  (31, ⟨3, 24, true, [.v (.int .i64 0), .v (.int .i64 0), .v (.int .i64 0)], .st [(3, 0), (3, 1), (3, 2)]⟩),
  (37, ⟨1, 24, false, [.nl], .slc 42⟩),
  (42, ⟨1, 2, false, [.v (.int .u16 0)], .int .u16⟩),
  (43, ⟨1, 8, false, [.v (.int .u64 0)], .int .u64⟩),
  (47, ⟨4, 32, true, [.v (.int .i64 0), .v (.int .i64 0), .v (.int .i64 0), .v (.int .i64 0)], .st [(3, 0), (3, 1), (3, 2), (3, 3)]⟩),
  (48, ⟨4, 32, true, [.v (.int .i64 0), .v (.int .i64 0), .v (.int .i64 0), .v (.int .i64 0)], .st [(3, 0), (3, 1), (3, 2), (3, 3)]⟩),
  (56, ⟨1, 8, false, [.v (.int .i64 0)], .int .i64⟩),
  (71, ⟨1, 8, false, [.v (.int .u64 0)], .int .u64⟩),
  (82, ⟨1, 8, false, [.v (.int .i64 0)], .int .i64⟩),
  (91, ⟨1, 4, false, [.v (.int .u32 0)], .int .u32⟩),
  (95, ⟨1, 8, false, [.v (.int .u64 0)], .int .u64⟩),
  (104, ⟨3, 24, true, [.v (.int .u64 0), .v (.int .u64 0), .v (.int .u64 0)], .arr 3 43⟩),
  (106, ⟨2, 16, true, [.v (.int .u64 0), .v (.int .u64 0)], .arr 2 71⟩)]
theorem hm : Try.prog.follows .mixedOrders = true := by kernel_rfl
theorem hT : tabOk Try.prog tt = true := by kernel_rfl
def i64 (n : Int) : DV := .v (.int .i64 n)
def intE (n : Int) : List DV := [.v (.int .i64 n)]
def byteI (n : Nat) : List DV := [.v (.int .u8 n)]
theorem fitsI {n : Nat} (h : n ≤ 2000000) : fitsIn tt 3 n := by
  have e : (tinfo tt 3).bytes = 8 := by kernel_rfl
  refine ⟨?_, ?_⟩
  · rw [e]; omega
  · simp only [maxLen]; omega
theorem ole_row {e : TypeId} {sz : Nat} {es es' : List (List DV)} (h : es = es') : ole (.row e sz es) (.row e sz es') := by subst h; exact .refl
def okAt (l : List Int) (i : Nat) : Bool := !(decide (l.getD i 0 ≤ (0 :: l).getD i 0) || decide (1000 < l.getD i 0))
def idsB (l : List Int) (most : Int) : Bool := !(decide ((l.length : Int) < 1) || decide (most < (l.length : Int))) && allB (okAt l) l.length
theorem c_view_identifiers (l : List Int) (hl : l.length ≤ maxLen) (m : Int) : Ret Try.prog 71 [.lst 1 (l.map intE) false, .v (.int .i64 m)] (.v (.bool (idsB l m))) := by
  have hl' : l.length ≤ 9223372036854775807 := hl
  refine ret_of_body (fn := Try.f71) (c := Try.f71.body.getD .skip) hm hT (by kernel_rfl) Try.func71 (by kernel_rfl) (by kernel_rfl) (by kernel_rfl) (by kernel_rfl) ?_
  repeat' ((conv => whnf); first | refine And.intro (fun h => h) ?_ | refine dcond_t (by assumption) ?_ | refine dcond_f (by assumption) ?_ | (refine dcond_intro ?_ ?_ <;> intro h) | exact .refl | refine And.intro (by kernel_rfl) ?_ | refine And.intro ⟨fun h => h, fun h => h⟩ ?_ | (refine And.intro ?_ ?_; focus (simp; done)) | fail)
  · skip
    refine dle_bool ?_
    simp only [List.length_map] at h
    simp only [idsB, h]
    rfl
  · skip
    simp only [List.length_map] at h
    have h0 := h
    clear h
    conv => whnf
    refine ⟨Nat, fun i => ⟨[(5, i64 ((0 :: l).getD i 0)), (17, .lst 1 (l.map intE) false), (18, i64 (l.map intE).length), (19, i64 i)], []⟩, fun i => i ≤ l.length ∧ ∀ j, j < i → okAt l j = true, fun i => l.length - i, [], ⟨0, ⟨Nat.zero_le _, by omega⟩, ?_⟩, ?_⟩
    · exact ⟨by repeat' ((conv => whnf); first | exact trivial | refine And.intro (by (conv => arg 1; whnf); first | (with_reducible exact .refl) | exact dle_int (wrap_succ (by omega)) | exact .refl) ?_), by repeat' ((conv => whnf); first | exact trivial | refine And.intro ?_ ?_ | exact .refl), rfl⟩
    · intro i ⟨hi, hall⟩
      repeat' ((conv => whnf); first | refine And.intro (fun h => h) ?_ | refine dcond_t (by assumption) ?_ | refine dcond_f (by assumption) ?_ | (refine dcond_intro ?_ ?_ <;> intro h) | exact .refl | refine And.intro (by kernel_rfl) ?_ | refine And.intro ⟨fun h => h, fun h => h⟩ ?_ | (refine And.intro ?_ ?_; focus (simp; done)) | fail)
      · have h1 := h
        have hlt : i < l.length := by simpa using h1
        have hg : l.getD i 0 = l[i] := by simp [hlt]
        repeat' ((conv => whnf); first | refine And.intro (fun h => h) ?_ | refine dcond_t (by assumption) ?_ | refine dcond_f (by assumption) ?_ | (refine dcond_intro ?_ ?_ <;> intro h) | exact .refl | refine And.intro (by kernel_rfl) ?_ | refine And.intro ⟨fun h => h, fun h => h⟩ ?_ | refine ⟨_, _, And.intro ⟨rfl, get_map hlt⟩ ?_⟩ | (refine And.intro ?_ ?_; focus (simp; done)) | fail)
        · have h2 := h
          refine dle_bool ?_
          have : okAt l i = false := by simp only [okAt, hg, h2]; rfl
          rw [idsB, allB_false hlt this, Bool.and_false]
        · have h2 := h
          conv => whnf
          refine ⟨i + 1, ⟨hlt, fun j hj => ?_⟩, by simp only []; omega, ?_⟩
          · rcases Nat.lt_succ_iff_lt_or_eq.1 hj with hj | rfl
            · exact hall j hj
            · simp only [okAt, hg, h2]; rfl
          · refine ⟨⟨?_, .refl, .refl, dle_int (wrap_succ (by omega)), trivial⟩, trivial, rfl⟩
            refine dle_int ?_
            simp [hlt]
      · have h1 := h
        have hge : ¬ i < l.length := by simpa using h1
        conv => whnf
        refine dle_bool ?_
        rw [idsB, h0, allB_true.2 (fun j hj => hall j (by omega))]
        rfl
theorem c_view_ValidCut (l : List Int) (hl : l.length ≤ maxLen) : Ret Try.prog 52 [.lst 1 (l.map intE) false] (.v (.bool (idsB l 32))) := by
  refine ret_of_body (fn := Try.f52) (c := Try.f52.body.getD .skip) hm hT (by kernel_rfl) Try.func52 (by kernel_rfl) (by kernel_rfl) (by kernel_rfl) (by kernel_rfl) ?_
  repeat' ((conv => whnf); first | refine And.intro (fun h => h) ?_ | refine dcond_t (by assumption) ?_ | refine dcond_f (by assumption) ?_ | (refine dcond_intro ?_ ?_ <;> intro h) | exact .refl | refine And.intro (by kernel_rfl) ?_ | refine And.intro ⟨fun h => h, fun h => h⟩ ?_ | refine .inl ⟨_, _, DleAll_refl _, c_view_identifiers _ hl _, ?_⟩ | refine ⟨_, _, DleAll_refl _, fun _ => c_view_identifiers _ hl _, ?_⟩ | refine ⟨_, _, DleAll_refl _, c_view_identifiers _ hl _, ?_⟩ | (refine And.intro ?_ ?_; focus (simp; done)) | fail)
def sameI (a b : List Int) : Bool := decide ((a.length : Int) = (b.length : Int)) && allB (fun i => decide (a.getD i 0 = b.getD i 0)) a.length
structure View where
  num : Int
  mem : List Int
def viewE (v : View) : List DV := [.v (.int .i64 v.num), .lst 1 (v.mem.map intE) false]
def placeB (l : List Int) (x : Int) : Int := findB (fun i => decide (l[i]? = some x)) l.length
theorem c_view_Place (l : List Int) (hl : l.length ≤ maxLen) (x : Int) : Ret Try.prog 37 [.lst 1 (l.map intE) false, .v (.int .i64 x)] (.v (.int .i64 (placeB l x))) := by
  have hl' : l.length ≤ 9223372036854775807 := hl
  refine ret_of_body (fn := Try.f37) (c := Try.f37.body.getD .skip) hm hT (by kernel_rfl) Try.func37 (by kernel_rfl) (by kernel_rfl) (by kernel_rfl) (by kernel_rfl) ?_
  repeat' ((conv => whnf); first | refine And.intro (fun h => h) ?_ | refine dcond_t (by assumption) ?_ | refine dcond_f (by assumption) ?_ | (refine dcond_intro ?_ ?_ <;> intro h) | exact .refl | refine And.intro (by kernel_rfl) ?_ | refine And.intro ⟨fun h => h, fun h => h⟩ ?_ | (refine And.intro ?_ ?_; focus (simp; done)) | fail)
  refine ⟨Nat, fun i => ⟨[(1, .v (.int .i64 x)), (7, .lst 1 (l.map intE) false), (8, i64 (l.map intE).length), (9, i64 i)], []⟩, fun i => i ≤ l.length ∧ ∀ j, j < i → decide (l[j]? = some x) = false, fun i => l.length - i, [], ⟨0, ⟨Nat.zero_le _, by omega⟩, ?_⟩, ?_⟩
  · exact ⟨by repeat' ((conv => whnf); first | exact trivial | refine And.intro (by (conv => arg 1; whnf); first | (with_reducible exact .refl) | exact dle_int (wrap_succ (by omega)) | exact .refl) ?_), by repeat' ((conv => whnf); first | exact trivial | refine And.intro ?_ ?_ | exact .refl), rfl⟩
  · intro i ⟨hi, hall⟩
    repeat' ((conv => whnf); first | refine And.intro (fun h => h) ?_ | refine dcond_t (by assumption) ?_ | refine dcond_f (by assumption) ?_ | (refine dcond_intro ?_ ?_ <;> intro h) | exact .refl | refine And.intro (by kernel_rfl) ?_ | refine And.intro ⟨fun h => h, fun h => h⟩ ?_ | (refine And.intro ?_ ?_; focus (simp; done)) | fail)
    · have hlt : i < l.length := by simpa using h
      repeat' ((conv => whnf); first | refine And.intro (fun h => h) ?_ | refine dcond_t (by assumption) ?_ | refine dcond_f (by assumption) ?_ | (refine dcond_intro ?_ ?_ <;> intro h) | exact .refl | refine And.intro (by kernel_rfl) ?_ | refine And.intro ⟨fun h => h, fun h => h⟩ ?_ | refine ⟨_, _, And.intro ⟨rfl, get_map hlt⟩ ?_⟩ | (refine And.intro ?_ ?_; focus (simp; done)) | fail)
      · have h2 := h
        refine dle_int (findB_at hlt ?_ hall).symm
        simpa [hlt] using h2
      · have h2 := h
        conv => whnf
        refine ⟨i + 1, ⟨hlt, fun j hj => ?_⟩, by simp only []; omega, ?_⟩
        · rcases Nat.lt_succ_iff_lt_or_eq.1 hj with hj | rfl
          · exact hall j hj
          · simpa [hlt] using h2
        · exact ⟨by repeat' ((conv => whnf); first | exact trivial | refine And.intro (by (conv => arg 1; whnf); first | (with_reducible exact .refl) | exact dle_int (wrap_succ (by omega)) | exact .refl) ?_), by repeat' ((conv => whnf); first | exact trivial | refine And.intro ?_ ?_ | exact .refl), rfl⟩
    · have hge : ¬ i < l.length := by simpa using h
      conv => whnf
      refine dle_int (findB_none (fun j hj => hall j (by omega))).symm
def inB (l : List Int) (x : Int) : Bool := decide (0 ≤ placeB l x)
theorem c_view_Contains (l : List Int) (hl : l.length ≤ maxLen) (x : Int) : Ret Try.prog 72 [.lst 1 (l.map intE) false, .v (.int .i64 x)] (.v (.bool (inB l x))) := by
  refine ret_of_body (fn := Try.f72) (c := Try.f72.body.getD .skip) hm hT (by kernel_rfl) Try.func72 (by kernel_rfl) (by kernel_rfl) (by kernel_rfl) (by kernel_rfl) ?_
  repeat' ((conv => whnf); first | refine And.intro (fun h => h) ?_ | refine dcond_t (by assumption) ?_ | refine dcond_f (by assumption) ?_ | (refine dcond_intro ?_ ?_ <;> intro h) | exact .refl | refine And.intro (by kernel_rfl) ?_ | refine And.intro ⟨fun h => h, fun h => h⟩ ?_ | refine .inl ⟨_, _, DleAll_refl _, c_view_Place _ hl _, ?_⟩ | refine ⟨_, _, DleAll_refl _, fun _ => c_view_Place _ hl _, ?_⟩ | refine ⟨_, _, DleAll_refl _, c_view_Place _ hl _, ?_⟩ | (refine And.intro ?_ ?_; focus (simp; done)) | fail)
theorem c_view_ValidMembers (l : List Int) (hl : l.length ≤ maxLen) : Ret Try.prog 62 [.lst 1 (l.map intE) false] (.v (.bool (idsB l 16))) := by
  refine ret_of_body (fn := Try.f62) (c := Try.f62.body.getD .skip) hm hT (by kernel_rfl) Try.func62 (by kernel_rfl) (by kernel_rfl) (by kernel_rfl) (by kernel_rfl) ?_
  repeat' ((conv => whnf); first | refine And.intro (fun h => h) ?_ | refine dcond_t (by assumption) ?_ | refine dcond_f (by assumption) ?_ | (refine dcond_intro ?_ ?_ <;> intro h) | exact .refl | refine And.intro (by kernel_rfl) ?_ | refine And.intro ⟨fun h => h, fun h => h⟩ ?_ | refine .inl ⟨_, _, DleAll_refl _, c_view_identifiers _ hl _, ?_⟩ | refine ⟨_, _, DleAll_refl _, fun _ => c_view_identifiers _ hl _, ?_⟩ | refine ⟨_, _, DleAll_refl _, c_view_identifiers _ hl _, ?_⟩ | (refine And.intro ?_ ?_; focus (simp; done)) | fail)
def viewB (v : View) : Bool := (decide (0 ≤ v.num) && decide (v.num ≤ 1099511627776)) && idsB v.mem 16
theorem c_view_Valid (v : View) (hl : v.mem.length ≤ maxLen) : Ret Try.prog 45 [.agg (viewE v)] (.v (.bool (viewB v))) := by
  refine ret_of_body (fn := Try.f45) (c := Try.f45.body.getD .skip) hm hT (by kernel_rfl) Try.func45 (by kernel_rfl) (by kernel_rfl) (by kernel_rfl) (by kernel_rfl) ?_
  repeat' ((conv => whnf); first | refine And.intro (fun h => h) ?_ | refine dcond_t (by assumption) ?_ | refine dcond_f (by assumption) ?_ | (refine dcond_intro ?_ ?_ <;> intro h) | exact .refl | refine And.intro (by kernel_rfl) ?_ | refine And.intro ⟨fun h => h, fun h => h⟩ ?_ | refine .inl ⟨_, _, DleAll_refl _, c_view_ValidMembers _ hl, ?_⟩ | refine ⟨_, _, DleAll_refl _, fun _ => c_view_ValidMembers _ hl, ?_⟩ | refine ⟨_, _, DleAll_refl _, c_view_ValidMembers _ hl, ?_⟩ | (refine And.intro ?_ ?_; focus (simp; done)) | fail)
def splitR (v : View) (cut l other : List Int) : List Int × List Int :=
  bif !viewB v || !idsB cut 32 then ([], []) else (l.filter (inB other), l.filter (fun x => !inB other x))
def partA (other l : List Int) (i : Nat) : List (List DV) := ((l.take i).filter (inB other)).map intE
def partB (other l : List Int) (i : Nat) : List (List DV) := ((l.take i).filter (fun x => !inB other x)).map intE
theorem partA_len (other l : List Int) (i : Nat) : (partA other l i).length ≤ i := by
  simp only [partA, List.length_map]
  exact Nat.le_trans (List.length_filter_le _ _) (by simp; omega)
theorem partB_len (other l : List Int) (i : Nat) : (partB other l i).length ≤ i := by
  simp only [partB, List.length_map]
  exact Nat.le_trans (List.length_filter_le _ _) (by simp; omega)
theorem part_in {other l : List Int} {i : Nat} (hlt : i < l.length) (h : inB other (l[i]'hlt) = true) : partA other l i ++ [intE (l[i]'hlt)] = partA other l (i + 1) ∧ partB other l i = partB other l (i + 1) := by
  simp only [partA, partB, List.take_succ_eq_append_getElem hlt, List.filter_append]
  simp [h]
theorem part_out {other l : List Int} {i : Nat} (hlt : i < l.length) (h : inB other (l[i]'hlt) = false) : partA other l i = partA other l (i + 1) ∧ partB other l i ++ [intE (l[i]'hlt)] = partB other l (i + 1) := by
  simp only [partA, partB, List.take_succ_eq_append_getElem hlt, List.filter_append]
  simp [h]
set_option maxRecDepth 100000 in
theorem c_view_split (v : View) (hv : v.mem.length ≤ maxLen) (cut l other : List Int) (hc : cut.length ≤ maxLen) (hl : l.length ≤ 1000000) (ho : other.length ≤ maxLen) :
    Ret Try.prog 55 [.agg (viewE v), .lst 1 (cut.map intE) false, .lst 1 (l.map intE) false, .lst 1 (other.map intE) false] (.tup [.lst 1 ((splitR v cut l other).1.map intE) false, .lst 1 ((splitR v cut l other).2.map intE) false]) := by
  refine ret_of_body (fn := Try.f55) (c := Try.f55.body.getD .skip) hm hT (by kernel_rfl) Try.func55 (by kernel_rfl) (by kernel_rfl) (by kernel_rfl) (by kernel_rfl) ?_
  repeat' ((conv => whnf); first | refine And.intro (fun h => h) ?_ | refine dcond_t (by assumption) ?_ | refine dcond_f (by assumption) ?_ | (refine dcond_intro ?_ ?_ <;> intro h) | exact .refl | refine And.intro (by kernel_rfl) ?_ | refine And.intro ⟨fun h => h, fun h => h⟩ ?_ | refine .inl ⟨_, _, DleAll_refl _, c_view_Valid _ hv, ?_⟩ | refine ⟨_, _, DleAll_refl _, fun _ => c_view_Valid _ hv, ?_⟩ | refine ⟨_, _, DleAll_refl _, c_view_Valid _ hv, ?_⟩ | refine .inl ⟨_, _, DleAll_refl _, c_view_ValidCut _ hc, ?_⟩ | refine ⟨_, _, DleAll_refl _, fun _ => c_view_ValidCut _ hc, ?_⟩ | refine ⟨_, _, DleAll_refl _, c_view_ValidCut _ hc, ?_⟩ | (refine And.intro ?_ ?_; focus (simp; done)) | fail)
  all_goals (conv => whnf)
  · simp only [splitR, h, cond_true]
    exact dle_tupA ⟨.nl, .nl, trivial⟩
  · simp only [splitR, h, cond_false]
    clear h
    refine ⟨Nat, fun i => ⟨[(3, .lst 1 (other.map intE) false), (8, .own 1), (9, .own 2), (20, .lst 1 (l.map intE) false), (21, i64 (l.map intE).length), (22, i64 i)], [.cells 24 (viewE v), .row 3 1 (partA other l i), .row 3 1 (partB other l i)]⟩, fun i => i ≤ l.length, fun i => l.length - i, [.slot 8 3 1, .slot 9 3 1], ⟨0, Nat.zero_le _, ?_⟩, ?_⟩
    · conv => whnf
      exact ⟨by repeat' ((conv => whnf); first | exact trivial | refine And.intro (by (conv => arg 1; whnf); first | (with_reducible exact .refl) | exact dle_int (wrap_succ (by omega)) | exact .refl) ?_), by repeat' ((conv => whnf); first | exact trivial | refine And.intro ?_ ?_ | exact .refl), rfl⟩
    · intro i hi
      repeat' ((conv => whnf); first | refine And.intro (fun h => h) ?_ | refine dcond_t (by assumption) ?_ | refine dcond_f (by assumption) ?_ | (refine dcond_intro ?_ ?_ <;> intro h) | exact .refl | refine And.intro (by kernel_rfl) ?_ | refine And.intro ⟨fun h => h, fun h => h⟩ ?_ | (refine And.intro ?_ ?_; focus (simp; done)) | fail)
      · have hlt : i < l.length := by simpa using h
        clear h
        repeat' ((conv => whnf); first | refine And.intro (fun h => h) ?_ | refine dcond_t (by assumption) ?_ | refine dcond_f (by assumption) ?_ | (refine dcond_intro ?_ ?_ <;> intro h) | exact .refl | refine And.intro (by kernel_rfl) ?_ | refine And.intro ⟨fun h => h, fun h => h⟩ ?_ | refine ⟨_, _, And.intro ⟨rfl, get_map hlt⟩ ?_⟩ | refine .inl ⟨_, _, DleAll_refl _, c_view_Contains _ ho _, ?_⟩ | refine ⟨_, _, DleAll_refl _, fun _ => c_view_Contains _ ho _, ?_⟩ | refine ⟨_, _, DleAll_refl _, c_view_Contains _ ho _, ?_⟩ | (refine And.intro ?_ ?_; focus (simp; done)) | fail)
        · have hA := partA_len other l i
          have hp := part_in hlt h
          conv => whnf
          refine And.intro (fitsI (by simp; omega)) ?_
          repeat' ((conv => whnf); first | refine And.intro (fun h => h) ?_ | refine dcond_t (by assumption) ?_ | refine dcond_f (by assumption) ?_ | (refine dcond_intro ?_ ?_ <;> intro h) | exact .refl | refine And.intro (by kernel_rfl) ?_ | refine And.intro ⟨fun h => h, fun h => h⟩ ?_ | (refine And.intro ?_ ?_; focus (simp; done)) | fail)
          all_goals (conv => whnf)
          refine ⟨i + 1, hlt, by simp only []; omega, ?_⟩
          exact ⟨⟨.refl, .refl, .refl, .refl, .refl, dle_int (wrap_succ (by omega)), trivial⟩, ⟨.refl, ole_row hp.1, ole_row hp.2, trivial⟩, rfl⟩
        · have hB := partB_len other l i
          have hp := part_out hlt h
          conv => whnf
          refine And.intro (fitsI (by simp; omega)) ?_
          repeat' ((conv => whnf); first | refine And.intro (fun h => h) ?_ | refine dcond_t (by assumption) ?_ | refine dcond_f (by assumption) ?_ | (refine dcond_intro ?_ ?_ <;> intro h) | exact .refl | refine And.intro (by kernel_rfl) ?_ | refine And.intro ⟨fun h => h, fun h => h⟩ ?_ | (refine And.intro ?_ ?_; focus (simp; done)) | fail)
          all_goals (conv => whnf)
          refine ⟨i + 1, hlt, by simp only []; omega, ?_⟩
          exact ⟨⟨.refl, .refl, .refl, .refl, .refl, dle_int (wrap_succ (by omega)), trivial⟩, ⟨.refl, ole_row hp.1, ole_row hp.2, trivial⟩, rfl⟩
      · have hge : ¬ i < l.length := by simpa using h
        have : i = l.length := by omega
        subst this
        conv => whnf
        refine dle_tupA ⟨dle_lst ?_, dle_lst ?_, trivial⟩
        · simp [partA]
        · simp [partB]
theorem c_view_Survivors (v : View) (hv : v.mem.length ≤ 1000000) (cut : List Int) (hc : cut.length ≤ 1000000) : Ret Try.prog 53 [.agg (viewE v), .lst 1 (cut.map intE) false] (.lst 1 ((splitR v cut v.mem cut).2.map intE) false) := by
  have h1 : v.mem.length ≤ maxLen := Nat.le_trans hv (by decide)
  have h2 : cut.length ≤ maxLen := Nat.le_trans hc (by decide)
  refine ret_of_body (fn := Try.f53) (c := Try.f53.body.getD .skip) hm hT (by kernel_rfl) Try.func53 (by kernel_rfl) (by kernel_rfl) (by kernel_rfl) (by kernel_rfl) ?_
  repeat' ((conv => whnf); first | refine And.intro (fun h => h) ?_ | refine dcond_t (by assumption) ?_ | refine dcond_f (by assumption) ?_ | (refine dcond_intro ?_ ?_ <;> intro h) | exact .refl | refine And.intro (by kernel_rfl) ?_ | refine And.intro ⟨fun h => h, fun h => h⟩ ?_ | refine .inl ⟨_, _, DleAll_refl _, c_view_split _ h1 _ _ _ h2 hv h2, ?_⟩ | refine ⟨_, _, DleAll_refl _, fun _ => c_view_split _ h1 _ _ _ h2 hv h2, ?_⟩ | refine ⟨_, _, DleAll_refl _, c_view_split _ h1 _ _ _ h2 hv h2, ?_⟩ | (refine And.intro ?_ ?_; focus (simp; done)) | fail)
theorem c_view_Joiners (v : View) (hv : v.mem.length ≤ 1000000) (cut : List Int) (hc : cut.length ≤ 1000000) : Ret Try.prog 36 [.agg (viewE v), .lst 1 (cut.map intE) false] (.lst 1 ((splitR v cut cut v.mem).2.map intE) false) := by
  have h1 : v.mem.length ≤ maxLen := Nat.le_trans hv (by decide)
  have h2 : cut.length ≤ maxLen := Nat.le_trans hc (by decide)
  refine ret_of_body (fn := Try.f36) (c := Try.f36.body.getD .skip) hm hT (by kernel_rfl) Try.func36 (by kernel_rfl) (by kernel_rfl) (by kernel_rfl) (by kernel_rfl) ?_
  repeat' ((conv => whnf); first | refine And.intro (fun h => h) ?_ | refine dcond_t (by assumption) ?_ | refine dcond_f (by assumption) ?_ | (refine dcond_intro ?_ ?_ <;> intro h) | exact .refl | refine And.intro (by kernel_rfl) ?_ | refine And.intro ⟨fun h => h, fun h => h⟩ ?_ | refine .inl ⟨_, _, DleAll_refl _, c_view_split _ h1 _ _ _ h2 hc h1, ?_⟩ | refine ⟨_, _, DleAll_refl _, fun _ => c_view_split _ h1 _ _ _ h2 hc h1, ?_⟩ | refine ⟨_, _, DleAll_refl _, c_view_split _ h1 _ _ _ h2 hc h1, ?_⟩ | (refine And.intro ?_ ?_; focus (simp; done)) | fail)
def mergeL : List Int → List Int → List Int
  | a, [] => a
  | a, x :: b => a.takeWhile (fun y => !decide (x < y)) ++ x :: mergeL (a.dropWhile (fun y => !decide (x < y))) b
theorem merge_gt {y x : Int} {a b : List Int} (h : x < y) : mergeL (y :: a) (x :: b) = x :: mergeL (y :: a) b := by simp [mergeL, h]
theorem merge_le {y x : Int} {a b : List Int} (h : ¬ x < y) : mergeL (y :: a) (x :: b) = y :: mergeL a (x :: b) := by simp [mergeL, h]
theorem merge_nil {x : Int} {b : List Int} : mergeL [] (x :: b) = x :: mergeL [] b := by simp [mergeL]
theorem c_view_merge (a b : List Int) (ha : a.length ≤ 500000) (hb : b.length ≤ 500000) : Ret Try.prog 54 [.lst 1 (a.map intE) false, .lst 1 (b.map intE) false] (.lst 1 ((mergeL a b).map intE) false) := by
  refine ret_of_body (fn := Try.f54) (c := Try.f54.body.getD .skip) hm hT (by kernel_rfl) Try.func54 (by kernel_rfl) (by kernel_rfl) (by kernel_rfl) (by kernel_rfl) ?_
  repeat' ((conv => whnf); first | refine And.intro (fun h => h) ?_ | refine dcond_t (by assumption) ?_ | refine dcond_f (by assumption) ?_ | (refine dcond_intro ?_ ?_ <;> intro h) | exact .refl | refine And.intro (by kernel_rfl) ?_ | refine And.intro ⟨fun h => h, fun h => h⟩ ?_ | (refine And.intro ?_ ?_; focus (simp; done)) | fail)
  refine ⟨Nat × Nat × List Int, fun s => ⟨[(0, .lst 1 (a.map intE) false), (5, .own 0), (6, i64 s.2.1), (9, .lst 1 (b.map intE) false), (10, i64 (b.map intE).length), (11, i64 s.1)], [.row 3 1 (s.2.2.map intE)]⟩,
    fun s => s.1 ≤ b.length ∧ s.2.1 ≤ a.length ∧ s.2.2.length ≤ s.1 + s.2.1 ∧ s.2.2 ++ mergeL (a.drop s.2.1) (b.drop s.1) = mergeL a b, fun s => b.length - s.1, [.slot 5 3 1], ⟨(0, 0, []), ⟨Nat.zero_le _, Nat.zero_le _, Nat.zero_le _, rfl⟩, ?_⟩, ?_⟩
  · conv => whnf
    exact ⟨by repeat' ((conv => whnf); first | exact trivial | refine And.intro (by (conv => arg 1; whnf); first | (with_reducible exact .refl) | exact dle_int (wrap_succ (by omega)) | exact .refl) ?_), by repeat' ((conv => whnf); first | exact trivial | refine And.intro ?_ ?_ | exact .refl), rfl⟩
  · intro ⟨j, i, out⟩ ⟨hj, hi, ho, hm⟩
    simp only at hj hi ho hm
    repeat' ((conv => whnf); first | refine And.intro (fun h => h) ?_ | refine dcond_t (by assumption) ?_ | refine dcond_f (by assumption) ?_ | (refine dcond_intro ?_ ?_ <;> intro h) | exact .refl | refine And.intro (by kernel_rfl) ?_ | refine And.intro ⟨fun h => h, fun h => h⟩ ?_ | (refine And.intro ?_ ?_; focus (simp; done)) | fail)
    · have hlt : j < b.length := by simpa using h
      clear h
      have hd : b.drop j = b[j] :: b.drop (j + 1) := List.drop_eq_getElem_cons hlt
      repeat' ((conv => whnf); first | refine And.intro (fun h => h) ?_ | refine dcond_t (by assumption) ?_ | refine dcond_f (by assumption) ?_ | (refine dcond_intro ?_ ?_ <;> intro h) | exact .refl | refine And.intro (by kernel_rfl) ?_ | refine And.intro ⟨fun h => h, fun h => h⟩ ?_ | refine ⟨_, _, And.intro ⟨rfl, get_map hlt⟩ ?_⟩ | (refine And.intro ?_ ?_; focus (simp; done)) | fail)
      conv => whnf
      refine ⟨Nat × List Int, fun s => ⟨[(0, .lst 1 (a.map intE) false), (5, .own 0), (6, i64 s.1), (8, .v (.int .i64 b[j])), (9, .lst 1 (b.map intE) false), (10, i64 (b.map intE).length), (11, i64 j)], [.row 3 1 (s.2.map intE)]⟩,
        fun s => s.1 ≤ a.length ∧ s.2.length ≤ j + s.1 ∧ s.2 ++ mergeL (a.drop s.1) (b.drop j) = mergeL a b, fun s => a.length - s.1, [], ⟨(i, out), ⟨hi, ho, hm⟩, ?_⟩, ?_⟩
      · exact ⟨by repeat' ((conv => whnf); first | exact trivial | refine And.intro (by (conv => arg 1; whnf); first | (with_reducible exact .refl) | exact dle_int (wrap_succ (by omega)) | exact .refl) ?_), by repeat' ((conv => whnf); first | exact trivial | refine And.intro ?_ ?_ | exact .refl), rfl⟩
      · intro ⟨i, out⟩ ⟨hi, ho, hm⟩
        simp only at hi ho hm
        repeat' ((conv => whnf); first | refine And.intro (fun h => h) ?_ | refine dcond_t (by assumption) ?_ | refine dcond_f (by assumption) ?_ | (refine dcond_intro ?_ ?_ <;> intro h) | exact .refl | refine And.intro (by kernel_rfl) ?_ | refine And.intro ⟨fun h => h, fun h => h⟩ ?_ | (refine And.intro ?_ ?_; focus (simp; done)) | fail)
        · have hlt2 : i < a.length := by simpa using h
          clear h
          have hd2 : a.drop i = a[i] :: a.drop (i + 1) := List.drop_eq_getElem_cons hlt2
          repeat' ((conv => whnf); first | refine And.intro (fun h => h) ?_ | refine dcond_t (by assumption) ?_ | refine dcond_f (by assumption) ?_ | (refine dcond_intro ?_ ?_ <;> intro h) | exact .refl | refine And.intro (by kernel_rfl) ?_ | refine And.intro ⟨fun h => h, fun h => h⟩ ?_ | refine ⟨_, _, And.intro ⟨rfl, get_map hlt2⟩ ?_⟩ | (refine And.intro ?_ ?_; focus (simp; done)) | fail)
          · conv => whnf
            refine And.intro (fitsI (by simp; omega)) ?_
            repeat' ((conv => whnf); first | refine And.intro (fun h => h) ?_ | refine dcond_t (by assumption) ?_ | refine dcond_f (by assumption) ?_ | (refine dcond_intro ?_ ?_ <;> intro h) | exact .refl | refine And.intro (by kernel_rfl) ?_ | refine And.intro ⟨fun h => h, fun h => h⟩ ?_ | (refine And.intro ?_ ?_; focus (simp; done)) | fail)
            all_goals (conv => whnf)
            refine ⟨(j + 1, i, out ++ [b[j]]), ⟨hlt, hi, by simp; omega, ?_⟩, by simp only []; omega, ?_⟩
            · have h : b[j] < a[i] := by simpa using h
              rw [hd, hd2, merge_gt h] at hm
              rw [← hm, hd2]
              simp
            · refine ⟨by repeat' ((conv => whnf); first | exact trivial | refine And.intro (by (conv => arg 1; whnf); first | (with_reducible exact .refl) | exact dle_int (wrap_succ (by omega)) | exact .refl) ?_), ⟨ole_row ?_, trivial⟩, rfl⟩
              simp
              rfl
          · conv => whnf
            refine And.intro (fitsI (by simp; omega)) ?_
            repeat' ((conv => whnf); first | refine And.intro (fun h => h) ?_ | refine dcond_t (by assumption) ?_ | refine dcond_f (by assumption) ?_ | (refine dcond_intro ?_ ?_ <;> intro h) | exact .refl | refine And.intro (by kernel_rfl) ?_ | refine And.intro ⟨fun h => h, fun h => h⟩ ?_ | (refine And.intro ?_ ?_; focus (simp; done)) | fail)
            all_goals (conv => whnf)
            refine ⟨(i + 1, out ++ [a[i]]), ⟨hlt2, by simp; omega, ?_⟩, by simp only []; omega, ?_⟩
            · have h : ¬ b[j] < a[i] := by simpa using h
              rw [hd, hd2, merge_le h] at hm
              rw [← hm, hd]
              simp
            · refine ⟨by repeat' ((conv => whnf); first | exact trivial | refine And.intro (by (conv => arg 1; whnf); first | (with_reducible exact .refl) | exact dle_int (wrap_succ (by omega)) | exact .refl) ?_), ⟨ole_row ?_, trivial⟩, rfl⟩
              simp
              rfl
        · have hge : ¬ i < a.length := by simpa using h
          have : i = a.length := by omega
          subst this
          conv => whnf
          refine And.intro (fitsI (by simp; omega)) ?_
          repeat' ((conv => whnf); first | refine And.intro (fun h => h) ?_ | refine dcond_t (by assumption) ?_ | refine dcond_f (by assumption) ?_ | (refine dcond_intro ?_ ?_ <;> intro h) | exact .refl | refine And.intro (by kernel_rfl) ?_ | refine And.intro ⟨fun h => h, fun h => h⟩ ?_ | (refine And.intro ?_ ?_; focus (simp; done)) | fail)
          all_goals (conv => whnf)
          refine ⟨(j + 1, a.length, out ++ [b[j]]), ⟨hlt, hi, by simp; omega, ?_⟩, by simp only []; omega, ?_⟩
          · rw [hd, List.drop_length, merge_nil] at hm
            rw [← hm]
            simp
          · refine ⟨by repeat' ((conv => whnf); first | exact trivial | refine And.intro (by (conv => arg 1; whnf); first | (with_reducible exact .refl) | exact dle_int (wrap_succ (by omega)) | exact .refl) ?_), ⟨ole_row ?_, trivial⟩, rfl⟩
            simp
            rfl
    · have hge : ¬ j < b.length := by simpa using h
      have : j = b.length := by omega
      subst this
      conv => whnf
      refine ⟨i, And.intro ⟨⟨_, rfl⟩, by simpa using hi⟩ ?_⟩
      conv => whnf
      refine And.intro (fitsI (by simp; omega)) ?_
      repeat' ((conv => whnf); first | refine And.intro (fun h => h) ?_ | refine dcond_t (by assumption) ?_ | refine dcond_f (by assumption) ?_ | (refine dcond_intro ?_ ?_ <;> intro h) | exact .refl | refine And.intro (by kernel_rfl) ?_ | refine And.intro ⟨fun h => h, fun h => h⟩ ?_ | (refine And.intro ?_ ?_; focus (simp; done)) | fail)
      all_goals (conv => whnf)
      refine dle_lst ?_
      rw [List.drop_length] at hm
      rw [← hm]
      simp [mergeL]
theorem split_len (v : View) (cut l o : List Int) : (splitR v cut l o).2.length ≤ l.length := by
  unfold splitR
  cases (!viewB v || !idsB cut 32)
  · exact List.length_filter_le _ _
  · simp
def stayL (v : View) (cut : List Int) : List Int := (splitR v cut v.mem cut).2
def comeL (v : View) (cut : List Int) : List Int := (splitR v cut cut v.mem).2
def nextR (v : View) (cut : List Int) : View × Int :=
  bif !viewB v || !idsB cut 32 then (⟨0, []⟩, 1)
  else bif decide (2 * ((stayL v cut).length : Int) ≤ (v.mem.length : Int)) then (⟨0, []⟩, 9)
  else bif decide (v.num = 1099511627776) || decide (16 < ((stayL v cut).length : Int) + ((comeL v cut).length : Int)) then (⟨0, []⟩, 5)
  else (⟨IntKind.i64.wrap (v.num + 1), mergeL (stayL v cut) (comeL v cut)⟩, 0)
set_option maxRecDepth 100000 in
theorem c_view_Next (v : View) (hv : v.mem.length ≤ 500000) (cut : List Int) (hc : cut.length ≤ 500000) : Ret Try.prog 35 [.agg (viewE v), .lst 1 (cut.map intE) false] (.tup [.agg (viewE (nextR v cut).1), .v (.int .i64 (nextR v cut).2)]) := by
  have h1 : v.mem.length ≤ maxLen := Nat.le_trans hv (by decide)
  have h2 : cut.length ≤ maxLen := Nat.le_trans hc (by decide)
  have h3 : (stayL v cut).length ≤ 500000 := Nat.le_trans (split_len _ _ _ _) hv
  have h4 : (comeL v cut).length ≤ 500000 := Nat.le_trans (split_len _ _ _ _) hc
  have e71 : Ret Try.prog 53 [.agg (viewE v), .lst 1 (cut.map intE) false] (.lst 1 ((stayL v cut).map intE) false) := c_view_Survivors v (by omega) cut (by omega)
  have e72 : Ret Try.prog 36 [.agg (viewE v), .lst 1 (cut.map intE) false] (.lst 1 ((comeL v cut).map intE) false) := c_view_Joiners v (by omega) cut (by omega)
  have w1 : IntKind.i64.wrap (2 * ((stayL v cut).length : Int)) = 2 * ((stayL v cut).length : Int) := wrap_i64 (by omega) (by omega)
  have w2 : IntKind.i64.wrap (((stayL v cut).length : Int) + ((comeL v cut).length : Int)) = ((stayL v cut).length : Int) + ((comeL v cut).length : Int) := wrap_i64 (by omega) (by omega)
  refine ret_of_body (fn := Try.f35) (c := Try.f35.body.getD .skip) hm hT (by kernel_rfl) Try.func35 (by kernel_rfl) (by kernel_rfl) (by kernel_rfl) (by kernel_rfl) ?_
  repeat' ((conv => whnf); first | refine And.intro (fun h => h) ?_ | refine dcond_t (by assumption) ?_ | refine dcond_f (by assumption) ?_ | (refine dcond_intro ?_ ?_ <;> intro h) | exact .refl | refine And.intro (by kernel_rfl) ?_ | refine And.intro ⟨fun h => h, fun h => h⟩ ?_ | refine .inl ⟨_, _, DleAll_refl _, c_view_Valid _ h1, ?_⟩ | refine ⟨_, _, DleAll_refl _, fun _ => c_view_Valid _ h1, ?_⟩ | refine ⟨_, _, DleAll_refl _, c_view_Valid _ h1, ?_⟩ | refine .inl ⟨_, _, DleAll_refl _, c_view_ValidCut _ h2, ?_⟩ | refine ⟨_, _, DleAll_refl _, fun _ => c_view_ValidCut _ h2, ?_⟩ | refine ⟨_, _, DleAll_refl _, c_view_ValidCut _ h2, ?_⟩ | refine .inl ⟨_, _, DleAll_refl _, e71, ?_⟩ | refine ⟨_, _, DleAll_refl _, fun _ => e71, ?_⟩ | refine ⟨_, _, DleAll_refl _, e71, ?_⟩ | refine .inl ⟨_, _, DleAll_refl _, e72, ?_⟩ | refine ⟨_, _, DleAll_refl _, fun _ => e72, ?_⟩ | refine ⟨_, _, DleAll_refl _, e72, ?_⟩ | refine .inl ⟨_, _, DleAll_refl _, c_view_merge _ _ h3 h4, ?_⟩ | refine ⟨_, _, DleAll_refl _, fun _ => c_view_merge _ _ h3 h4, ?_⟩ | refine ⟨_, _, DleAll_refl _, c_view_merge _ _ h3 h4, ?_⟩ | (refine And.intro ?_ ?_; focus (simp; done)) | fail)
  all_goals (conv => whnf)
  all_goals clear e71 e72
  all_goals (try simp only [List.length_map, w1, w2] at *)
  all_goals simp only [nextR, *, cond_true, cond_false]
  · exact dle_tupA ⟨dle_aggA ⟨.refl, .nl, trivial⟩, .refl, trivial⟩
  · exact dle_tupA ⟨dle_aggA ⟨.refl, .nl, trivial⟩, .refl, trivial⟩
  · exact dle_tupA ⟨dle_aggA ⟨.refl, .nl, trivial⟩, .refl, trivial⟩
  · exact .refl
/-! reference 3, first part: identifiers, lists, views (expects: intE, i64, idsB, sameI, viewE, viewB, placeB, inB) -/
theorem c_ref3_IsID (n : Int) : Ret Try.prog 41 [.v (.int .i64 n)] (.v (.bool (decide (1 ≤ n) && decide (n ≤ 1000)))) := by
  refine ret_of_body (fn := Try.f41) (c := Try.f41.body.getD .skip) hm hT (by kernel_rfl) Try.func41 (by kernel_rfl) (by kernel_rfl) (by kernel_rfl) (by kernel_rfl) ?_
  repeat' ((conv => whnf); first | refine And.intro (fun h => h) ?_ | refine dcond_t (by assumption) ?_ | refine dcond_f (by assumption) ?_ | (refine dcond_intro ?_ ?_ <;> intro h) | exact .refl | refine And.intro (by kernel_rfl) ?_ | refine And.intro ⟨fun h => h, fun h => h⟩ ?_ | (refine And.intro ?_ ?_; focus (simp; done)) | fail)
def riseAt (l : List Int) (i : Nat) : Bool := !(!(decide (1 ≤ l.getD i 0) && decide (l.getD i 0 ≤ 1000)) || (decide (0 < (i : Int)) && decide (l.getD i 0 ≤ l.getD (i - 1) 0)))
def riseB (l : List Int) : Bool := allB (riseAt l) l.length
theorem c_ref3_Rising (l : List Int) (hl : l.length ≤ maxLen) : Ret Try.prog 59 [.lst 1 (l.map intE) false] (.v (.bool (riseB l))) := by
  have hl' : l.length ≤ 9223372036854775807 := hl
  refine ret_of_body (fn := Try.f59) (c := Try.f59.body.getD .skip) hm hT (by kernel_rfl) Try.func59 (by kernel_rfl) (by kernel_rfl) (by kernel_rfl) (by kernel_rfl) ?_
  repeat' ((conv => whnf); first | refine And.intro (fun h => h) ?_ | refine dcond_t (by assumption) ?_ | refine dcond_f (by assumption) ?_ | (refine dcond_intro ?_ ?_ <;> intro h) | exact .refl | refine And.intro (by kernel_rfl) ?_ | refine And.intro ⟨fun h => h, fun h => h⟩ ?_ | (refine And.intro ?_ ?_; focus (simp; done)) | fail)
  refine ⟨Nat, fun i => ⟨[(0, .lst 1 (l.map intE) false), (3, i64 i)], []⟩, fun i => i ≤ l.length ∧ ∀ j, j < i → riseAt l j = true, fun i => l.length - i, [], ⟨0, ⟨Nat.zero_le _, by omega⟩, ?_⟩, ?_⟩
  · exact ⟨by repeat' ((conv => whnf); first | exact trivial | refine And.intro (by (conv => arg 1; whnf); first | (with_reducible exact .refl) | exact dle_int (wrap_succ (by omega)) | exact .refl) ?_), by repeat' ((conv => whnf); first | exact trivial | refine And.intro ?_ ?_ | exact .refl), rfl⟩
  · intro i ⟨hi, hall⟩
    repeat' ((conv => whnf); first | refine And.intro (fun h => h) ?_ | refine dcond_t (by assumption) ?_ | refine dcond_f (by assumption) ?_ | (refine dcond_intro ?_ ?_ <;> intro h) | exact .refl | refine And.intro (by kernel_rfl) ?_ | refine And.intro ⟨fun h => h, fun h => h⟩ ?_ | (refine And.intro ?_ ?_; focus (simp; done)) | fail)
    · have hlt : i < l.length := by simpa using h
      clear h
      have hg : l.getD i 0 = l[i] := by simp [hlt]
      repeat' ((conv => whnf); first | refine And.intro (fun h => h) ?_ | refine dcond_t (by assumption) ?_ | refine dcond_f (by assumption) ?_ | (refine dcond_intro ?_ ?_ <;> intro h) | exact .refl | refine And.intro (by kernel_rfl) ?_ | refine And.intro ⟨fun h => h, fun h => h⟩ ?_ | refine ⟨_, _, And.intro ⟨rfl, get_map hlt⟩ ?_⟩ | refine .inl ⟨_, _, DleAll_refl _, c_ref3_IsID _, ?_⟩ | refine ⟨_, _, DleAll_refl _, fun _ => c_ref3_IsID _, ?_⟩ | refine ⟨_, _, DleAll_refl _, c_ref3_IsID _, ?_⟩ | refine ⟨i, intE (l[i]'hlt), And.intro ⟨⟨fun h => h, fun h => h⟩, fun hg => ⟨rfl, get_map hlt⟩⟩ ?_⟩ | (refine And.intro ?_ ?_; focus (simp; done)) | fail)
      have hp : ∀ (hg : (!(decide (1 ≤ l[i]) && decide (l[i] ≤ 1000))) = false ∧ 0 < i), (IntKind.i64.wrap ((i : Int) - 1)) = ((i - 1 : Nat) : Int) ∧ (l.map intE)[i - 1]? = some (intE (l.getD (i - 1) 0)) := by
        rintro ⟨_, h0⟩
        refine ⟨by rw [wrap_i64 (by omega) (by omega)]; omega, ?_⟩
        have : i - 1 < l.length := by omega
        simp [this]
      refine ⟨i - 1, intE (l.getD (i - 1) 0), And.intro ⟨⟨fun h => h, fun h => h⟩, fun hg => hp ?_⟩ ?_⟩
      · simp only [Bool.and_eq_true, Bool.not_eq_true', decide_eq_true_eq] at hg
        refine ⟨?_, by omega⟩
        have := hg.1
        simpa using this
      repeat' ((conv => whnf); first | refine And.intro (fun h => h) ?_ | refine dcond_t (by assumption) ?_ | refine dcond_f (by assumption) ?_ | (refine dcond_intro ?_ ?_ <;> intro h) | exact .refl | refine And.intro (by kernel_rfl) ?_ | refine And.intro ⟨fun h => h, fun h => h⟩ ?_ | (refine And.intro ?_ ?_; focus (simp; done)) | fail)
      all_goals (conv => whnf)
      · refine dle_bool ?_
        have : riseAt l i = false := by simp only [riseAt, hg, h]; rfl
        rw [riseB, allB_false hlt this]
      · refine ⟨i + 1, ⟨hlt, fun j hj => ?_⟩, by simp only []; omega, ?_⟩
        · rcases Nat.lt_succ_iff_lt_or_eq.1 hj with hj | rfl
          · exact hall j hj
          · simp only [riseAt, hg, h]; rfl
        · exact ⟨by repeat' ((conv => whnf); first | exact trivial | refine And.intro (by (conv => arg 1; whnf); first | (with_reducible exact .refl) | exact dle_int (wrap_succ (by omega)) | exact .refl) ?_), by repeat' ((conv => whnf); first | exact trivial | refine And.intro ?_ ?_ | exact .refl), rfl⟩
    · have hge : ¬ i < l.length := by simpa using h
      conv => whnf
      refine dle_bool ?_
      rw [riseB, allB_true.2 (fun j hj => hall j (by omega))]
def cutRB (l : List Int) : Bool := (decide (1 ≤ (l.length : Int)) && decide ((l.length : Int) ≤ 32)) && riseB l
theorem c_ref3_ValidCut (l : List Int) (hl : l.length ≤ maxLen) : Ret Try.prog 56 [.lst 1 (l.map intE) false] (.v (.bool (cutRB l))) := by
  refine ret_of_body (fn := Try.f56) (c := Try.f56.body.getD .skip) hm hT (by kernel_rfl) Try.func56 (by kernel_rfl) (by kernel_rfl) (by kernel_rfl) (by kernel_rfl) ?_
  repeat' ((conv => whnf); first | refine And.intro (fun h => h) ?_ | refine dcond_t (by assumption) ?_ | refine dcond_f (by assumption) ?_ | (refine dcond_intro ?_ ?_ <;> intro h) | exact .refl | refine And.intro (by kernel_rfl) ?_ | refine And.intro ⟨fun h => h, fun h => h⟩ ?_ | refine .inl ⟨_, _, DleAll_refl _, c_ref3_Rising _ hl, ?_⟩ | refine ⟨_, _, DleAll_refl _, fun _ => c_ref3_Rising _ hl, ?_⟩ | refine ⟨_, _, DleAll_refl _, c_ref3_Rising _ hl, ?_⟩ | (refine And.intro ?_ ?_; focus (simp; done)) | fail)
  all_goals (conv => whnf)
  refine dle_bool ?_
  simp only [cutRB, List.length_map]
/-- the checks of lists: the two say the same -/
theorem rise_iff {l : List Int} : riseB l = true ↔ ∀ i, (h : i < l.length) → 1 ≤ l[i] ∧ l[i] ≤ 1000 ∧ (0 < i → l.getD (i - 1) 0 < l[i]) := by
  rw [riseB, allB_true]
  refine forall_congr' fun i => ?_
  constructor
  · intro h hi
    have h := h hi
    have hg : l.getD i 0 = l[i] := by simp [hi]
    simp only [riseAt, hg, Bool.not_eq_true', Bool.or_eq_false_iff, Bool.not_eq_false', Bool.and_eq_true, decide_eq_true_eq, Bool.and_eq_false_iff, decide_eq_false_iff_not] at h
    omega
  · intro h hi
    have h := h hi
    have hg : l.getD i 0 = l[i] := by simp [hi]
    simp only [riseAt, hg, Bool.not_eq_true', Bool.or_eq_false_iff, Bool.not_eq_false', Bool.and_eq_true, decide_eq_true_eq, Bool.and_eq_false_iff, decide_eq_false_iff_not]
    omega
theorem oks_iff {l : List Int} : allB (okAt l) l.length = true ↔ ∀ i, (h : i < l.length) → (0 :: l).getD i 0 < l[i] ∧ l[i] ≤ 1000 := by
  rw [allB_true]
  refine forall_congr' fun i => ?_
  constructor
  · intro h hi
    have h := h hi
    have hg : l.getD i 0 = l[i] := by simp [hi]
    simp only [okAt, hg, Bool.not_eq_true', Bool.or_eq_false_iff, decide_eq_false_iff_not] at h
    omega
  · intro h hi
    have h := h hi
    have hg : l.getD i 0 = l[i] := by simp [hi]
    simp only [okAt, hg, Bool.not_eq_true', Bool.or_eq_false_iff, decide_eq_false_iff_not]
    omega
theorem rise_oks (l : List Int) : riseB l = allB (okAt l) l.length := by
  rw [Bool.eq_iff_iff, rise_iff, oks_iff]
  constructor
  · intro h i hi
    have h1 := h i hi
    cases i with
    | zero => simp; omega
    | succ i => exact ⟨by simpa using h1.2.2 (by omega), h1.2.1⟩
  · intro h i
    induction i with
    | zero => intro hi; have h1 := h 0 hi; simp at h1; exact ⟨by omega, h1.2, fun h => by omega⟩
    | succ i ih =>
      intro hi
      have h1 := h (i + 1) hi
      have h2 := ih (by omega)
      have e : (0 :: l).getD (i + 1) 0 = l[i] := by simp [show i < l.length by omega]
      rw [e] at h1
      exact ⟨by omega, h1.2, fun _ => by simp [show i < l.length by omega]; omega⟩
theorem ids_eq (l : List Int) (m : Int) : idsB l m = ((decide (1 ≤ (l.length : Int)) && decide ((l.length : Int) ≤ m)) && riseB l) := by
  rw [idsB, rise_oks]
  congr 1
  rw [Bool.eq_iff_iff]
  simp only [Bool.not_eq_true', Bool.or_eq_false_iff, decide_eq_false_iff_not, Bool.and_eq_true, decide_eq_true_eq]
  omega
theorem cutRB_eq (l : List Int) : cutRB l = idsB l 32 := by rw [ids_eq, cutRB]
/-! reference 3, second part (expects: splitR, nextR, fitsI, ole_row and the first part) -/
theorem c_ref3_Place (l : List Int) (hl : l.length ≤ maxLen) (x : Int) : Ret Try.prog 43 [.lst 1 (l.map intE) false, .v (.int .i64 x)] (.v (.int .i64 (placeB l x))) := by
  have hl' : l.length ≤ 9223372036854775807 := hl
  refine ret_of_body (fn := Try.f43) (c := Try.f43.body.getD .skip) hm hT (by kernel_rfl) Try.func43 (by kernel_rfl) (by kernel_rfl) (by kernel_rfl) (by kernel_rfl) ?_
  repeat' ((conv => whnf); first | refine And.intro (fun h => h) ?_ | refine dcond_t (by assumption) ?_ | refine dcond_f (by assumption) ?_ | (refine dcond_intro ?_ ?_ <;> intro h) | exact .refl | refine And.intro (by kernel_rfl) ?_ | refine And.intro ⟨fun h => h, fun h => h⟩ ?_ | (refine And.intro ?_ ?_; focus (simp; done)) | fail)
  refine ⟨Nat, fun i => ⟨[(0, .lst 1 (l.map intE) false), (1, .v (.int .i64 x)), (5, i64 i)], []⟩, fun i => i ≤ l.length ∧ ∀ j, j < i → decide (l[j]? = some x) = false, fun i => l.length - i, [], ⟨0, ⟨Nat.zero_le _, by omega⟩, ?_⟩, ?_⟩
  · exact ⟨by repeat' ((conv => whnf); first | exact trivial | refine And.intro (by (conv => arg 1; whnf); first | (with_reducible exact .refl) | exact dle_int (wrap_succ (by omega)) | exact .refl) ?_), by repeat' ((conv => whnf); first | exact trivial | refine And.intro ?_ ?_ | exact .refl), rfl⟩
  · intro i ⟨hi, hall⟩
    repeat' ((conv => whnf); first | refine And.intro (fun h => h) ?_ | refine dcond_t (by assumption) ?_ | refine dcond_f (by assumption) ?_ | (refine dcond_intro ?_ ?_ <;> intro h) | exact .refl | refine And.intro (by kernel_rfl) ?_ | refine And.intro ⟨fun h => h, fun h => h⟩ ?_ | (refine And.intro ?_ ?_; focus (simp; done)) | fail)
    · have hlt : i < l.length := by simpa using h
      repeat' ((conv => whnf); first | refine And.intro (fun h => h) ?_ | refine dcond_t (by assumption) ?_ | refine dcond_f (by assumption) ?_ | (refine dcond_intro ?_ ?_ <;> intro h) | exact .refl | refine And.intro (by kernel_rfl) ?_ | refine And.intro ⟨fun h => h, fun h => h⟩ ?_ | refine ⟨_, _, And.intro ⟨rfl, get_map hlt⟩ ?_⟩ | (refine And.intro ?_ ?_; focus (simp; done)) | fail)
      · have h2 := h
        refine dle_int (findB_at hlt ?_ hall).symm
        simpa [hlt] using h2
      · have h2 := h
        conv => whnf
        refine ⟨i + 1, ⟨hlt, fun j hj => ?_⟩, by simp only []; omega, ?_⟩
        · rcases Nat.lt_succ_iff_lt_or_eq.1 hj with hj | rfl
          · exact hall j hj
          · simpa [hlt] using h2
        · exact ⟨by repeat' ((conv => whnf); first | exact trivial | refine And.intro (by (conv => arg 1; whnf); first | (with_reducible exact .refl) | exact dle_int (wrap_succ (by omega)) | exact .refl) ?_), by repeat' ((conv => whnf); first | exact trivial | refine And.intro ?_ ?_ | exact .refl), rfl⟩
    · have hge : ¬ i < l.length := by simpa using h
      conv => whnf
      refine dle_int (findB_none (fun j hj => hall j (by omega))).symm
theorem c_ref3_Contains (l : List Int) (hl : l.length ≤ maxLen) (x : Int) : Ret Try.prog 23 [.lst 1 (l.map intE) false, .v (.int .i64 x)] (.v (.bool (inB l x))) := by
  refine ret_of_body (fn := Try.f23) (c := Try.f23.body.getD .skip) hm hT (by kernel_rfl) Try.func23 (by kernel_rfl) (by kernel_rfl) (by kernel_rfl) (by kernel_rfl) ?_
  repeat' ((conv => whnf); first | refine And.intro (fun h => h) ?_ | refine dcond_t (by assumption) ?_ | refine dcond_f (by assumption) ?_ | (refine dcond_intro ?_ ?_ <;> intro h) | exact .refl | refine And.intro (by kernel_rfl) ?_ | refine And.intro ⟨fun h => h, fun h => h⟩ ?_ | refine .inl ⟨_, _, DleAll_refl _, c_ref3_Place _ hl _, ?_⟩ | refine ⟨_, _, DleAll_refl _, fun _ => c_ref3_Place _ hl _, ?_⟩ | refine ⟨_, _, DleAll_refl _, c_ref3_Place _ hl _, ?_⟩ | (refine And.intro ?_ ?_; focus (simp; done)) | fail)
def memRB (l : List Int) : Bool := (decide (1 ≤ (l.length : Int)) && decide ((l.length : Int) ≤ 16)) && riseB l
theorem memRB_eq (l : List Int) : memRB l = idsB l 16 := by rw [ids_eq, memRB]
theorem c_ref3_ValidMembers (l : List Int) (hl : l.length ≤ maxLen) : Ret Try.prog 40 [.lst 1 (l.map intE) false] (.v (.bool (idsB l 16))) := by
  rw [← memRB_eq]
  refine ret_of_body (fn := Try.f40) (c := Try.f40.body.getD .skip) hm hT (by kernel_rfl) Try.func40 (by kernel_rfl) (by kernel_rfl) (by kernel_rfl) (by kernel_rfl) ?_
  repeat' ((conv => whnf); first | refine And.intro (fun h => h) ?_ | refine dcond_t (by assumption) ?_ | refine dcond_f (by assumption) ?_ | (refine dcond_intro ?_ ?_ <;> intro h) | exact .refl | refine And.intro (by kernel_rfl) ?_ | refine And.intro ⟨fun h => h, fun h => h⟩ ?_ | refine .inl ⟨_, _, DleAll_refl _, c_ref3_Rising _ hl, ?_⟩ | refine ⟨_, _, DleAll_refl _, fun _ => c_ref3_Rising _ hl, ?_⟩ | refine ⟨_, _, DleAll_refl _, c_ref3_Rising _ hl, ?_⟩ | (refine And.intro ?_ ?_; focus (simp; done)) | fail)
  all_goals (conv => whnf)
  refine dle_bool ?_
  simp only [memRB, List.length_map]
theorem c_ref3_Valid (v : View) (hl : v.mem.length ≤ maxLen) : Ret Try.prog 19 [.agg (viewE v)] (.v (.bool (viewB v))) := by
  refine ret_of_body (fn := Try.f19) (c := Try.f19.body.getD .skip) hm hT (by kernel_rfl) Try.func19 (by kernel_rfl) (by kernel_rfl) (by kernel_rfl) (by kernel_rfl) ?_
  repeat' ((conv => whnf); first | refine And.intro (fun h => h) ?_ | refine dcond_t (by assumption) ?_ | refine dcond_f (by assumption) ?_ | (refine dcond_intro ?_ ?_ <;> intro h) | exact .refl | refine And.intro (by kernel_rfl) ?_ | refine And.intro ⟨fun h => h, fun h => h⟩ ?_ | refine .inl ⟨_, _, DleAll_refl _, c_ref3_ValidMembers _ hl, ?_⟩ | refine ⟨_, _, DleAll_refl _, fun _ => c_ref3_ValidMembers _ hl, ?_⟩ | refine ⟨_, _, DleAll_refl _, c_ref3_ValidMembers _ hl, ?_⟩ | (refine And.intro ?_ ?_; focus (simp; done)) | fail)
def amongB (m : List Int) (b : Bool) (x : Int) : Bool := inB m x == b
def amongP (l m : List Int) (b : Bool) (i : Nat) : List (List DV) := ((l.take i).filter (amongB m b)).map intE
theorem amongP_len (l m : List Int) (b : Bool) (i : Nat) : (amongP l m b i).length ≤ i := by
  simp only [amongP, List.length_map]
  exact Nat.le_trans (List.length_filter_le _ _) (by simp; omega)
theorem c_ref3_Among (l m : List Int) (hl : l.length ≤ 1000000) (hm' : m.length ≤ maxLen) (b : Bool) : Ret Try.prog 73 [.lst 1 (l.map intE) false, .lst 1 (m.map intE) false, .v (.bool b)] (.lst 1 ((l.filter (amongB m b)).map intE) false) := by
  refine ret_of_body (fn := Try.f73) (c := Try.f73.body.getD .skip) hm hT (by kernel_rfl) Try.func73 (by kernel_rfl) (by kernel_rfl) (by kernel_rfl) (by kernel_rfl) ?_
  repeat' ((conv => whnf); first | refine And.intro (fun h => h) ?_ | refine dcond_t (by assumption) ?_ | refine dcond_f (by assumption) ?_ | (refine dcond_intro ?_ ?_ <;> intro h) | exact .refl | refine And.intro (by kernel_rfl) ?_ | refine And.intro ⟨fun h => h, fun h => h⟩ ?_ | (refine And.intro ?_ ?_; focus (simp; done)) | fail)
  refine ⟨Nat, fun i => ⟨[(0, .lst 1 (l.map intE) false), (1, .lst 1 (m.map intE) false), (2, .v (.bool b)), (7, .own 0), (8, i64 i)], [.row 3 1 (amongP l m b i)]⟩, fun i => i ≤ l.length, fun i => l.length - i, [.slot 7 3 1], ⟨0, Nat.zero_le _, ?_⟩, ?_⟩
  · conv => whnf
    exact ⟨by repeat' ((conv => whnf); first | exact trivial | refine And.intro (by (conv => arg 1; whnf); first | (with_reducible exact .refl) | exact dle_int (wrap_succ (by omega)) | exact .refl) ?_), by repeat' ((conv => whnf); first | exact trivial | refine And.intro ?_ ?_ | exact .refl), rfl⟩
  · intro i hi
    repeat' ((conv => whnf); first | refine And.intro (fun h => h) ?_ | refine dcond_t (by assumption) ?_ | refine dcond_f (by assumption) ?_ | (refine dcond_intro ?_ ?_ <;> intro h) | exact .refl | refine And.intro (by kernel_rfl) ?_ | refine And.intro ⟨fun h => h, fun h => h⟩ ?_ | (refine And.intro ?_ ?_; focus (simp; done)) | fail)
    · have hlt : i < l.length := by simpa using h
      clear h
      repeat' ((conv => whnf); first | refine And.intro (fun h => h) ?_ | refine dcond_t (by assumption) ?_ | refine dcond_f (by assumption) ?_ | (refine dcond_intro ?_ ?_ <;> intro h) | exact .refl | refine And.intro (by kernel_rfl) ?_ | refine And.intro ⟨fun h => h, fun h => h⟩ ?_ | refine ⟨_, _, And.intro ⟨rfl, get_map hlt⟩ ?_⟩ | refine .inl ⟨_, _, DleAll_refl _, c_ref3_Contains _ hm' _, ?_⟩ | refine ⟨_, _, DleAll_refl _, fun _ => c_ref3_Contains _ hm' _, ?_⟩ | refine ⟨_, _, DleAll_refl _, c_ref3_Contains _ hm' _, ?_⟩ | (refine And.intro ?_ ?_; focus (simp; done)) | fail)
      all_goals (conv => whnf)
      · have hA := amongP_len l m b i
        refine And.intro (fitsI (by simp; omega)) ?_
        repeat' ((conv => whnf); first | refine And.intro (fun h => h) ?_ | refine dcond_t (by assumption) ?_ | refine dcond_f (by assumption) ?_ | (refine dcond_intro ?_ ?_ <;> intro h) | exact .refl | refine And.intro (by kernel_rfl) ?_ | refine And.intro ⟨fun h => h, fun h => h⟩ ?_ | (refine And.intro ?_ ?_; focus (simp; done)) | fail)
        all_goals (conv => whnf)
        refine ⟨i + 1, hlt, by simp only []; omega, ?_⟩
        refine ⟨⟨.refl, .refl, .refl, .refl, dle_int (wrap_succ (by omega)), trivial⟩, ⟨ole_row ?_, trivial⟩, rfl⟩
        simp only [amongP, List.take_succ_eq_append_getElem hlt, List.filter_append, List.map_append]
        have h' : amongB m b l[i] = true := h
        simp [List.filter_cons, h', intE, dcells]
      · refine ⟨i + 1, hlt, by simp only []; omega, ?_⟩
        refine ⟨⟨.refl, .refl, .refl, .refl, dle_int (wrap_succ (by omega)), trivial⟩, ⟨ole_row ?_, trivial⟩, rfl⟩
        simp only [amongP, List.take_succ_eq_append_getElem hlt, List.filter_append, List.map_append]
        have h' : amongB m b l[i] = false := h
        simp [List.filter_cons, h']
    · have hge : ¬ i < l.length := by simpa using h
      have : i = l.length := by omega
      subst this
      repeat' ((conv => whnf); first | refine And.intro (fun h => h) ?_ | refine dcond_t (by assumption) ?_ | refine dcond_f (by assumption) ?_ | (refine dcond_intro ?_ ?_ <;> intro h) | exact .refl | refine And.intro (by kernel_rfl) ?_ | refine And.intro ⟨fun h => h, fun h => h⟩ ?_ | (refine And.intro ?_ ?_; focus (simp; done)) | fail)
      all_goals (conv => whnf)
      refine dle_lst ?_
      simp [amongP]
theorem c_ref3_Survivors (v : View) (hv : v.mem.length ≤ 1000000) (cut : List Int) (hc : cut.length ≤ 1000000) : Ret Try.prog 57 [.agg (viewE v), .lst 1 (cut.map intE) false] (.lst 1 ((splitR v cut v.mem cut).2.map intE) false) := by
  have h1 : v.mem.length ≤ maxLen := Nat.le_trans hv (by decide)
  have h2 : cut.length ≤ maxLen := Nat.le_trans hc (by decide)
  refine ret_of_body (fn := Try.f57) (c := Try.f57.body.getD .skip) hm hT (by kernel_rfl) Try.func57 (by kernel_rfl) (by kernel_rfl) (by kernel_rfl) (by kernel_rfl) ?_
  repeat' ((conv => whnf); first | refine And.intro (fun h => h) ?_ | refine dcond_t (by assumption) ?_ | refine dcond_f (by assumption) ?_ | (refine dcond_intro ?_ ?_ <;> intro h) | exact .refl | refine And.intro (by kernel_rfl) ?_ | refine And.intro ⟨fun h => h, fun h => h⟩ ?_ | refine .inl ⟨_, _, DleAll_refl _, c_ref3_Valid _ h1, ?_⟩ | refine ⟨_, _, DleAll_refl _, fun _ => c_ref3_Valid _ h1, ?_⟩ | refine ⟨_, _, DleAll_refl _, c_ref3_Valid _ h1, ?_⟩ | refine .inl ⟨_, _, DleAll_refl _, c_ref3_ValidCut _ h2, ?_⟩ | refine ⟨_, _, DleAll_refl _, fun _ => c_ref3_ValidCut _ h2, ?_⟩ | refine ⟨_, _, DleAll_refl _, c_ref3_ValidCut _ h2, ?_⟩ | refine .inl ⟨_, _, DleAll_refl _, c_ref3_Among _ _ hv h2 _, ?_⟩ | refine ⟨_, _, DleAll_refl _, fun _ => c_ref3_Among _ _ hv h2 _, ?_⟩ | refine ⟨_, _, DleAll_refl _, c_ref3_Among _ _ hv h2 _, ?_⟩ | (refine And.intro ?_ ?_; focus (simp; done)) | fail)
  all_goals (conv => whnf)
  all_goals (try simp only [cutRB_eq] at *)
  all_goals simp only [splitR, *, cond_true, cond_false]
  · exact .nl
  · refine dle_lst ?_
    congr 1
    apply List.filter_congr
    intro x _
    simp [amongB]
theorem c_ref3_Joiners (v : View) (hv : v.mem.length ≤ 1000000) (cut : List Int) (hc : cut.length ≤ 1000000) : Ret Try.prog 58 [.agg (viewE v), .lst 1 (cut.map intE) false] (.lst 1 ((splitR v cut cut v.mem).2.map intE) false) := by
  have h1 : v.mem.length ≤ maxLen := Nat.le_trans hv (by decide)
  have h2 : cut.length ≤ maxLen := Nat.le_trans hc (by decide)
  refine ret_of_body (fn := Try.f58) (c := Try.f58.body.getD .skip) hm hT (by kernel_rfl) Try.func58 (by kernel_rfl) (by kernel_rfl) (by kernel_rfl) (by kernel_rfl) ?_
  repeat' ((conv => whnf); first | refine And.intro (fun h => h) ?_ | refine dcond_t (by assumption) ?_ | refine dcond_f (by assumption) ?_ | (refine dcond_intro ?_ ?_ <;> intro h) | exact .refl | refine And.intro (by kernel_rfl) ?_ | refine And.intro ⟨fun h => h, fun h => h⟩ ?_ | refine .inl ⟨_, _, DleAll_refl _, c_ref3_Valid _ h1, ?_⟩ | refine ⟨_, _, DleAll_refl _, fun _ => c_ref3_Valid _ h1, ?_⟩ | refine ⟨_, _, DleAll_refl _, c_ref3_Valid _ h1, ?_⟩ | refine .inl ⟨_, _, DleAll_refl _, c_ref3_ValidCut _ h2, ?_⟩ | refine ⟨_, _, DleAll_refl _, fun _ => c_ref3_ValidCut _ h2, ?_⟩ | refine ⟨_, _, DleAll_refl _, c_ref3_ValidCut _ h2, ?_⟩ | refine .inl ⟨_, _, DleAll_refl _, c_ref3_Among _ _ hc h1 _, ?_⟩ | refine ⟨_, _, DleAll_refl _, fun _ => c_ref3_Among _ _ hc h1 _, ?_⟩ | refine ⟨_, _, DleAll_refl _, c_ref3_Among _ _ hc h1 _, ?_⟩ | (refine And.intro ?_ ?_; focus (simp; done)) | fail)
  all_goals (conv => whnf)
  all_goals (try simp only [cutRB_eq] at *)
  all_goals simp only [splitR, *, cond_true, cond_false]
  · exact .nl
  · refine dle_lst ?_
    congr 1
    apply List.filter_congr
    intro x _
    simp [amongB]
/-- the list so far, and whether the new element is in -/
def insA (l : List Int) (x : Int) : Nat → List Int × Bool
  | 0 => ([], false)
  | i + 1 => bif !(insA l x i).2 && decide (x < l.getD i 0) then ((insA l x i).1 ++ [x] ++ [l.getD i 0], true) else ((insA l x i).1 ++ [l.getD i 0], (insA l x i).2)
def insL (l : List Int) (x : Int) : List Int := bif (insA l x l.length).2 then (insA l x l.length).1 else (insA l x l.length).1 ++ [x]
theorem insA_len (l : List Int) (x : Int) : ∀ i, (insA l x i).1.length ≤ i + 1 ∧ ((insA l x i).2 = false → (insA l x i).1.length ≤ i)
  | 0 => by simp [insA]
  | i + 1 => by
    have ih := insA_len l x i
    simp only [insA]
    cases h : (insA l x i).2 <;> cases h2 : decide (x < l.getD i 0) <;> simp_all <;> omega
theorem insL_len (l : List Int) (x : Int) : (insL l x).length ≤ l.length + 1 := by
  have := insA_len l x l.length
  unfold insL
  cases h : (insA l x l.length).2 <;> simp_all
theorem c_ref3_Insert (l : List Int) (hl : l.length ≤ 1000000) (x : Int) : Ret Try.prog 27 [.lst 1 (l.map intE) false, .v (.int .i64 x)] (.lst 1 ((insL l x).map intE) false) := by
  refine ret_of_body (fn := Try.f27) (c := Try.f27.body.getD .skip) hm hT (by kernel_rfl) Try.func27 (by kernel_rfl) (by kernel_rfl) (by kernel_rfl) (by kernel_rfl) ?_
  repeat' ((conv => whnf); first | refine And.intro (fun h => h) ?_ | refine dcond_t (by assumption) ?_ | refine dcond_f (by assumption) ?_ | (refine dcond_intro ?_ ?_ <;> intro h) | exact .refl | refine And.intro (by kernel_rfl) ?_ | refine And.intro ⟨fun h => h, fun h => h⟩ ?_ | (refine And.intro ?_ ?_; focus (simp; done)) | fail)
  refine ⟨Nat, fun i => ⟨[(0, .lst 1 (l.map intE) false), (1, .v (.int .i64 x)), (5, .own 0), (6, .v (.bool (insA l x i).2)), (7, i64 i)], [.row 3 1 ((insA l x i).1.map intE)]⟩, fun i => i ≤ l.length, fun i => l.length - i, [.slot 5 3 1], ⟨0, Nat.zero_le _, ?_⟩, ?_⟩
  · conv => whnf
    exact ⟨by repeat' ((conv => whnf); first | exact trivial | refine And.intro (by (conv => arg 1; whnf); first | (with_reducible exact .refl) | exact dle_int (wrap_succ (by omega)) | exact .refl) ?_), by repeat' ((conv => whnf); first | exact trivial | refine And.intro ?_ ?_ | exact .refl), rfl⟩
  · intro i hi
    have hA := insA_len l x i
    repeat' ((conv => whnf); first | refine And.intro (fun h => h) ?_ | refine dcond_t (by assumption) ?_ | refine dcond_f (by assumption) ?_ | (refine dcond_intro ?_ ?_ <;> intro h) | exact .refl | refine And.intro (by kernel_rfl) ?_ | refine And.intro ⟨fun h => h, fun h => h⟩ ?_ | (refine And.intro ?_ ?_; focus (simp; done)) | fail)
    · have hlt : i < l.length := by simpa using h
      clear h
      have hg : l.getD i 0 = l[i] := by simp [hlt]
      repeat' ((conv => whnf); first | refine And.intro (fun h => h) ?_ | refine dcond_t (by assumption) ?_ | refine dcond_f (by assumption) ?_ | (refine dcond_intro ?_ ?_ <;> intro h) | exact .refl | refine And.intro (by kernel_rfl) ?_ | refine And.intro ⟨fun h => h, fun h => h⟩ ?_ | refine ⟨_, _, And.intro ⟨rfl, get_map hlt⟩ ?_⟩ | refine ⟨i, intE (l[i]'hlt), And.intro ⟨⟨fun h => h, fun h => h⟩, fun hg => ⟨rfl, get_map hlt⟩⟩ ?_⟩ | (refine And.intro ?_ ?_; focus (simp; done)) | fail)
      all_goals (conv => whnf)
      · have e : insA l x (i + 1) = ((insA l x i).1 ++ [x] ++ [l[i]], true) := by simp only [insA, hg, h, cond_true]
        refine And.intro (fitsI (by simp; omega)) ?_
        repeat' ((conv => whnf); first | refine And.intro (fun h => h) ?_ | refine dcond_t (by assumption) ?_ | refine dcond_f (by assumption) ?_ | (refine dcond_intro ?_ ?_ <;> intro h) | exact .refl | refine And.intro (by kernel_rfl) ?_ | refine And.intro ⟨fun h => h, fun h => h⟩ ?_ | refine ⟨_, _, And.intro ⟨rfl, get_map hlt⟩ ?_⟩ | (refine And.intro ?_ ?_; focus (simp; done)) | fail)
        all_goals (conv => whnf)
        refine And.intro (fitsI (by simp; omega)) ?_
        repeat' ((conv => whnf); first | refine And.intro (fun h => h) ?_ | refine dcond_t (by assumption) ?_ | refine dcond_f (by assumption) ?_ | (refine dcond_intro ?_ ?_ <;> intro h) | exact .refl | refine And.intro (by kernel_rfl) ?_ | refine And.intro ⟨fun h => h, fun h => h⟩ ?_ | (refine And.intro ?_ ?_; focus (simp; done)) | fail)
        all_goals (conv => whnf)
        refine ⟨i + 1, hlt, by simp only []; omega, ?_⟩
        refine ⟨⟨.refl, .refl, .refl, dle_bool (by rw [e]), dle_int (wrap_succ (by omega)), trivial⟩, ⟨ole_row ?_, trivial⟩, rfl⟩
        rw [e]
        simp [intE, dcells]
      · have e : insA l x (i + 1) = ((insA l x i).1 ++ [l[i]], (insA l x i).2) := by simp only [insA, hg, h, cond_false]
        repeat' ((conv => whnf); first | refine And.intro (fun h => h) ?_ | refine dcond_t (by assumption) ?_ | refine dcond_f (by assumption) ?_ | (refine dcond_intro ?_ ?_ <;> intro h) | exact .refl | refine And.intro (by kernel_rfl) ?_ | refine And.intro ⟨fun h => h, fun h => h⟩ ?_ | refine ⟨_, _, And.intro ⟨rfl, get_map hlt⟩ ?_⟩ | (refine And.intro ?_ ?_; focus (simp; done)) | fail)
        all_goals (conv => whnf)
        refine And.intro (fitsI (by simp; omega)) ?_
        repeat' ((conv => whnf); first | refine And.intro (fun h => h) ?_ | refine dcond_t (by assumption) ?_ | refine dcond_f (by assumption) ?_ | (refine dcond_intro ?_ ?_ <;> intro h) | exact .refl | refine And.intro (by kernel_rfl) ?_ | refine And.intro ⟨fun h => h, fun h => h⟩ ?_ | (refine And.intro ?_ ?_; focus (simp; done)) | fail)
        all_goals (conv => whnf)
        refine ⟨i + 1, hlt, by simp only []; omega, ?_⟩
        refine ⟨⟨.refl, .refl, .refl, dle_bool (by rw [e]), dle_int (wrap_succ (by omega)), trivial⟩, ⟨ole_row ?_, trivial⟩, rfl⟩
        rw [e]
        simp [intE, dcells]
    · rename_i hge0
      have hge : ¬ i < l.length := by simpa using hge0
      have : i = l.length := by omega
      subst this
      clear hge0
      have h : (insA l x l.length).2 = false := by simpa using h
      conv => whnf
      refine And.intro (fitsI (by simp; omega)) ?_
      repeat' ((conv => whnf); first | refine And.intro (fun h => h) ?_ | refine dcond_t (by assumption) ?_ | refine dcond_f (by assumption) ?_ | (refine dcond_intro ?_ ?_ <;> intro h) | exact .refl | refine And.intro (by kernel_rfl) ?_ | refine And.intro ⟨fun h => h, fun h => h⟩ ?_ | (refine And.intro ?_ ?_; focus (simp; done)) | fail)
      all_goals (conv => whnf)
      refine dle_lst ?_
      simp only [insL, h, cond_false]
      simp [intE, dcells]
    · rename_i hge0
      have hge : ¬ i < l.length := by simpa using hge0
      have : i = l.length := by omega
      subst this
      clear hge0
      have h : (insA l x l.length).2 = true := by simpa using h
      repeat' ((conv => whnf); first | refine And.intro (fun h => h) ?_ | refine dcond_t (by assumption) ?_ | refine dcond_f (by assumption) ?_ | (refine dcond_intro ?_ ?_ <;> intro h) | exact .refl | refine And.intro (by kernel_rfl) ?_ | refine And.intro ⟨fun h => h, fun h => h⟩ ?_ | (refine And.intro ?_ ?_; focus (simp; done)) | fail)
      all_goals (conv => whnf)
      refine dle_lst ?_
      simp only [insL, h, cond_true]
def insAll : List Int → List Int → List Int
  | l, [] => l
  | l, x :: r => insAll (insL l x) r
def insTo (l j : List Int) : Nat → List Int
  | 0 => l
  | i + 1 => insL (insTo l j i) (j.getD i 0)
theorem insTo_len (l j : List Int) : ∀ i, (insTo l j i).length ≤ l.length + i
  | 0 => Nat.le_refl _
  | i + 1 => by
    have := insTo_len l j i
    have h2 := insL_len (insTo l j i) (j.getD i 0)
    simp only [insTo]
    omega
def nextRR (v : View) (cut : List Int) : View × Int :=
  bif !viewB v || !idsB cut 32 then (⟨0, []⟩, 1)
  else bif decide (2 * ((stayL v cut).length : Int) ≤ (v.mem.length : Int)) then (⟨0, []⟩, 9)
  else bif decide (v.num = 1099511627776) || decide (16 < ((stayL v cut).length : Int) + ((comeL v cut).length : Int)) then (⟨0, []⟩, 5)
  else (⟨IntKind.i64.wrap (v.num + 1), insTo (stayL v cut) (comeL v cut) (comeL v cut).length⟩, 0)
theorem nextRR_err (v : View) (cut : List Int) : (nextRR v cut).2 = (nextR v cut).2 := by
  unfold nextRR nextR
  cases (!viewB v || !idsB cut 32) <;> simp only [cond_true, cond_false]
  cases decide (2 * ((stayL v cut).length : Int) ≤ (v.mem.length : Int)) <;> simp only [cond_true, cond_false]
  cases (decide (v.num = 1099511627776) || decide (16 < ((stayL v cut).length : Int) + ((comeL v cut).length : Int))) <;> simp only [cond_true, cond_false]
set_option maxRecDepth 100000 in
theorem c_ref3_Next (v : View) (hv : v.mem.length ≤ 500000) (cut : List Int) (hc : cut.length ≤ 500000) : Ret Try.prog 38 [.agg (viewE v), .lst 1 (cut.map intE) false] (.tup [.agg (viewE (nextRR v cut).1), .v (.int .i64 (nextRR v cut).2)]) := by
  have h1 : v.mem.length ≤ maxLen := Nat.le_trans hv (by decide)
  have h2 : cut.length ≤ maxLen := Nat.le_trans hc (by decide)
  have h3 : (stayL v cut).length ≤ 500000 := Nat.le_trans (split_len _ _ _ _) hv
  have h4 : (comeL v cut).length ≤ 500000 := Nat.le_trans (split_len _ _ _ _) hc
  have es : Ret Try.prog 57 [.agg (viewE v), .lst 1 (cut.map intE) false] (.lst 1 ((stayL v cut).map intE) false) := c_ref3_Survivors v (by omega) cut (by omega)
  have ej : Ret Try.prog 58 [.agg (viewE v), .lst 1 (cut.map intE) false] (.lst 1 ((comeL v cut).map intE) false) := c_ref3_Joiners v (by omega) cut (by omega)
  have w1 : IntKind.i64.wrap (2 * ((stayL v cut).length : Int)) = 2 * ((stayL v cut).length : Int) := wrap_i64 (by omega) (by omega)
  have w2 : IntKind.i64.wrap (((stayL v cut).length : Int) + ((comeL v cut).length : Int)) = ((stayL v cut).length : Int) + ((comeL v cut).length : Int) := wrap_i64 (by omega) (by omega)
  refine ret_of_body (fn := Try.f38) (c := Try.f38.body.getD .skip) hm hT (by kernel_rfl) Try.func38 (by kernel_rfl) (by kernel_rfl) (by kernel_rfl) (by kernel_rfl) ?_
  repeat' ((conv => whnf); first | refine And.intro (fun h => h) ?_ | refine dcond_t (by assumption) ?_ | refine dcond_f (by assumption) ?_ | (refine dcond_intro ?_ ?_ <;> intro h) | exact .refl | refine And.intro (by kernel_rfl) ?_ | refine And.intro ⟨fun h => h, fun h => h⟩ ?_ | refine .inl ⟨_, _, DleAll_refl _, c_ref3_Valid _ h1, ?_⟩ | refine ⟨_, _, DleAll_refl _, fun _ => c_ref3_Valid _ h1, ?_⟩ | refine ⟨_, _, DleAll_refl _, c_ref3_Valid _ h1, ?_⟩ | refine .inl ⟨_, _, DleAll_refl _, c_ref3_ValidCut _ h2, ?_⟩ | refine ⟨_, _, DleAll_refl _, fun _ => c_ref3_ValidCut _ h2, ?_⟩ | refine ⟨_, _, DleAll_refl _, c_ref3_ValidCut _ h2, ?_⟩ | refine .inl ⟨_, _, DleAll_refl _, es, ?_⟩ | refine ⟨_, _, DleAll_refl _, fun _ => es, ?_⟩ | refine ⟨_, _, DleAll_refl _, es, ?_⟩ | refine .inl ⟨_, _, DleAll_refl _, ej, ?_⟩ | refine ⟨_, _, DleAll_refl _, fun _ => ej, ?_⟩ | refine ⟨_, _, DleAll_refl _, ej, ?_⟩ | (refine And.intro ?_ ?_; focus (simp; done)) | fail)
  all_goals (conv => whnf)
  all_goals (try simp only [List.length_map, w1, w2, cutRB_eq] at *)
  · simp only [nextRR, *, cond_true, cond_false]
    exact dle_tupA ⟨dle_aggA ⟨.refl, .nl, trivial⟩, .refl, trivial⟩
  · simp only [nextRR, *, cond_true, cond_false]
    exact dle_tupA ⟨dle_aggA ⟨.refl, .nl, trivial⟩, .refl, trivial⟩
  · simp only [nextRR, *, cond_true, cond_false]
    exact dle_tupA ⟨dle_aggA ⟨.refl, .nl, trivial⟩, .refl, trivial⟩
  · have e : nextRR v cut = (⟨IntKind.i64.wrap (v.num + 1), insTo (stayL v cut) (comeL v cut) (comeL v cut).length⟩, 0) := by simp only [nextRR, *, cond_true, cond_false]
    rw [e]
    refine ⟨Nat, fun i => ⟨[(2, .lp 0 0), (4, .lp 1 0), (6, .lst 1 ((insTo (stayL v cut) (comeL v cut) i).map intE) false), (7, .lst 1 ((comeL v cut).map intE) false), (8, i64 i)], [.cells 24 (viewE v), .cells 24 [.v (.int .i64 0), .nl]]⟩, fun i => i ≤ (comeL v cut).length, fun i => (comeL v cut).length - i, [], ⟨0, Nat.zero_le _, ?_⟩, ?_⟩
    · exact ⟨by repeat' ((conv => whnf); first | exact trivial | refine And.intro (by (conv => arg 1; whnf); first | (with_reducible exact .refl) | exact dle_int (wrap_succ (by omega)) | exact .refl) ?_), by repeat' ((conv => whnf); first | exact trivial | refine And.intro ?_ ?_ | exact .refl), rfl⟩
    · intro i hi
      have hl := insTo_len (stayL v cut) (comeL v cut) i
      repeat' ((conv => whnf); first | refine And.intro (fun h => h) ?_ | refine dcond_t (by assumption) ?_ | refine dcond_f (by assumption) ?_ | (refine dcond_intro ?_ ?_ <;> intro h) | exact .refl | refine And.intro (by kernel_rfl) ?_ | refine And.intro ⟨fun h => h, fun h => h⟩ ?_ | (refine And.intro ?_ ?_; focus (simp; done)) | fail)
      · have hlt : i < (comeL v cut).length := by simpa using h
        repeat' ((conv => whnf); first | refine And.intro (fun h => h) ?_ | refine dcond_t (by assumption) ?_ | refine dcond_f (by assumption) ?_ | (refine dcond_intro ?_ ?_ <;> intro h) | exact .refl | refine And.intro (by kernel_rfl) ?_ | refine And.intro ⟨fun h => h, fun h => h⟩ ?_ | refine ⟨_, _, And.intro ⟨rfl, get_map hlt⟩ ?_⟩ | refine .inl ⟨_, _, DleAll_refl _, c_ref3_Insert _ (by omega) _, ?_⟩ | refine ⟨_, _, DleAll_refl _, fun _ => c_ref3_Insert _ (by omega) _, ?_⟩ | refine ⟨_, _, DleAll_refl _, c_ref3_Insert _ (by omega) _, ?_⟩ | (refine And.intro ?_ ?_; focus (simp; done)) | fail)
        all_goals (conv => whnf)
        refine ⟨i + 1, hlt, by simp only []; omega, ?_⟩
        refine ⟨⟨.refl, .refl, dle_lst ?_, .refl, dle_int (wrap_succ (by omega)), trivial⟩, ⟨.refl, .refl, trivial⟩, rfl⟩
        have hg : (comeL v cut).getD i 0 = (comeL v cut)[i] := by simp [hlt]
        simp only [insTo, hg]
      · have hge : ¬ i < (comeL v cut).length := by simpa using h
        have : i = (comeL v cut).length := by omega
        subst this
        repeat' ((conv => whnf); first | refine And.intro (fun h => h) ?_ | refine dcond_t (by assumption) ?_ | refine dcond_f (by assumption) ?_ | (refine dcond_intro ?_ ?_ <;> intro h) | exact .refl | refine And.intro (by kernel_rfl) ?_ | refine And.intro ⟨fun h => h, fun h => h⟩ ?_ | (refine And.intro ?_ ?_; focus (simp; done)) | fail)
theorem c_ref3_Applicable (v : View) (hv : v.mem.length ≤ 500000) (cut : List Int) (hc : cut.length ≤ 500000) : Ret Try.prog 21 [.agg (viewE v), .lst 1 (cut.map intE) false] (.v (.bool (decide ((nextR v cut).2 = 0)))) := by
  rw [← nextRR_err]
  refine ret_of_body (fn := Try.f21) (c := Try.f21.body.getD .skip) hm hT (by kernel_rfl) Try.func21 (by kernel_rfl) (by kernel_rfl) (by kernel_rfl) (by kernel_rfl) ?_
  repeat' ((conv => whnf); first | refine And.intro (fun h => h) ?_ | refine dcond_t (by assumption) ?_ | refine dcond_f (by assumption) ?_ | (refine dcond_intro ?_ ?_ <;> intro h) | exact .refl | refine And.intro (by kernel_rfl) ?_ | refine And.intro ⟨fun h => h, fun h => h⟩ ?_ | refine .inl ⟨_, _, DleAll_refl _, c_ref3_Next _ hv _ hc, ?_⟩ | refine ⟨_, _, DleAll_refl _, fun _ => c_ref3_Next _ hv _ hc, ?_⟩ | refine ⟨_, _, DleAll_refl _, c_ref3_Next _ hv _ hc, ?_⟩ | (refine And.intro ?_ ?_; focus (simp; done)) | fail)
theorem view_ids {v : View} (hv : viewB v = true) : idsB v.mem 16 = true := by
  simp only [viewB, Bool.and_eq_true] at hv
  exact hv.2
theorem view_len {v : View} (hv : viewB v = true) : 1 ≤ v.mem.length ∧ v.mem.length ≤ 16 := by
  have hid := view_ids hv
  rw [ids_eq] at hid
  simp only [Bool.and_eq_true, decide_eq_true_eq] at hid
  omega
theorem mem_rise {v : View} (hv : viewB v = true) : 0 < v.mem.length ∧ ∀ i (h : i < v.mem.length), 1 ≤ v.mem[i] ∧ v.mem[i] ≤ 1000 ∧ (0 :: v.mem).getD i 0 < v.mem[i] := by
  have hid := view_ids hv
  have ho := hid
  rw [ids_eq] at hid
  simp only [Bool.and_eq_true, decide_eq_true_eq] at hid
  simp only [idsB, Bool.and_eq_true] at ho
  refine ⟨by omega, fun i h => ?_⟩
  have h1 := rise_iff.1 hid.2 i h
  have h2 := oks_iff.1 ho.2 i h
  exact ⟨h1.1, h1.2.1, h2.1⟩
theorem mem_in {l : List Int} {i : Nat} (h : i < l.length) : inB l l[i] = true := by
  rcases hf : (List.range l.length).find? (fun j => decide (l[j]? = some l[i])) with _ | n
  · have := List.find?_eq_none.1 hf i (List.mem_range.2 h)
    simp [h] at this
  · simp only [inB, placeB, findB, hf]
    exact decide_eq_true (by omega)
theorem in_iff {l : List Int} {x : Int} : inB l x = true ↔ x ∈ l := by
  constructor
  · intro h
    rcases hf : (List.range l.length).find? (fun i => decide (l[i]? = some x)) with _ | n
    · simp only [inB, placeB, findB, hf] at h
      cases h
    · have hp := List.find?_some hf
      simp only [decide_eq_true_eq] at hp
      exact List.mem_of_getElem? hp
  · intro h
    obtain ⟨i, hi, rfl⟩ := List.getElem_of_mem h
    exact mem_in hi
theorem sameI_refl (l : List Int) : sameI l l = true := by
  simp only [sameI, decide_true, Bool.true_and]
  exact allB_true.2 (fun j _ => by simp)
theorem sameI_iff {a b : List Int} : sameI a b = true ↔ a = b := by
  constructor
  · intro h
    simp only [sameI, Bool.and_eq_true, decide_eq_true_eq, allB_true] at h
    refine List.ext_getElem (by omega) fun i h1 h2 => ?_
    have := h.2 i h1
    simpa [h1, h2] using this
  · rintro rfl
    exact sameI_refl a
theorem dat_ints {n : Nat} {r : List DV} (h : Dat tt (n + 2) 22 r) : ∃ l : List Int, r = [.lst 1 (l.map intE) false] ∧ l.length ≤ maxLen := by
  obtain ⟨es, rfl, hl, hes⟩ := h
  obtain ⟨d, rfl, _⟩ := list_data (f := intE) (Q := fun _ => True) (fun r hr => by
    obtain ⟨i, rfl, _⟩ := hes r hr
    exact ⟨i, rfl, trivial⟩)
  exact ⟨d, rfl, by simpa using hl⟩
theorem dat_view {n : Nat} {r : List DV} (h : Dat tt (n + 3) 24 r) : ∃ a : View, r = viewE a ∧ a.mem.length ≤ maxLen := by
  obtain ⟨p, q, rfl, ⟨np, rfl, _⟩, l, s, rfl, hl, rfl⟩ := h
  obtain ⟨l, rfl, hll⟩ := dat_ints (n := n) hl
  exact ⟨⟨np, l⟩, rfl, hll⟩
end Go.Proofs.Ytpipaadjokdgoaa

set_option linter.unusedSimpArgs false
set_option linter.unusedVariables false
set_option maxRecDepth 100000
namespace Go.Proofs.Ytpipaadjokdgoaa
open Go.Lift
/-! package cmp, at integers -/
def cmpI (a b : Int) : Int := bif decide (a < b) then -1 else bif decide (b < a) then 1 else 0
theorem cmp_iff (a b : Int) : (cmpI a b < 0 ↔ a < b) ∧ (cmpI a b = 0 ↔ a = b) ∧ (cmpI a b = -1 ∨ cmpI a b = 0 ∨ cmpI a b = 1) := by
  unfold cmpI
  by_cases h1 : a < b
  · simp [h1]; omega
  · by_cases h2 : b < a
    · simp [h1, h2]; omega
    · simp [h1, h2]; omega
theorem c_isNaN_u64 (a : Int) : Ret Try.prog 87 [.v (.int .u64 a)] (.v (.bool false)) := by
  refine ret_of_body (fn := Try.f87) (c := Try.f87.body.getD .skip) hm hT (by kernel_rfl) Try.func87 (by kernel_rfl) (by kernel_rfl) (by kernel_rfl) (by kernel_rfl) ?_
  repeat' ((conv => whnf); first | refine And.intro (fun h => h) ?_ | refine dcond_t (by assumption) ?_ | refine dcond_f (by assumption) ?_ | (refine dcond_intro ?_ ?_ <;> intro h) | exact .refl | refine And.intro (by kernel_rfl) ?_ | refine And.intro ⟨fun h => h, fun h => h⟩ ?_ | (refine And.intro ?_ ?_; focus (simp; done)) | fail)
  all_goals (conv => whnf)
  refine dle_bool ?_
  simp
theorem c_isNaN_int (a : Int) : Ret Try.prog 94 [.v (.int .i64 a)] (.v (.bool false)) := by
  refine ret_of_body (fn := Try.f94) (c := Try.f94.body.getD .skip) hm hT (by kernel_rfl) Try.func94 (by kernel_rfl) (by kernel_rfl) (by kernel_rfl) (by kernel_rfl) ?_
  repeat' ((conv => whnf); first | refine And.intro (fun h => h) ?_ | refine dcond_t (by assumption) ?_ | refine dcond_f (by assumption) ?_ | (refine dcond_intro ?_ ?_ <;> intro h) | exact .refl | refine And.intro (by kernel_rfl) ?_ | refine And.intro ⟨fun h => h, fun h => h⟩ ?_ | (refine And.intro ?_ ?_; focus (simp; done)) | fail)
  all_goals (conv => whnf)
  refine dle_bool ?_
  simp
theorem c_Compare_u64 (a b : Int) : Ret Try.prog 70 [.v (.int .u64 a), .v (.int .u64 b)] (.v (.int .i64 (cmpI a b))) := by
  refine ret_of_body (fn := Try.f70) (c := Try.f70.body.getD .skip) hm hT (by kernel_rfl) Try.func70 (by kernel_rfl) (by kernel_rfl) (by kernel_rfl) (by kernel_rfl) ?_
  repeat' ((conv => whnf); first | refine And.intro (fun h => h) ?_ | refine dcond_t (by assumption) ?_ | refine dcond_f (by assumption) ?_ | (refine dcond_intro ?_ ?_ <;> intro h) | exact .refl | refine And.intro (by kernel_rfl) ?_ | refine And.intro ⟨fun h => h, fun h => h⟩ ?_ | refine .inl ⟨_, _, DleAll_refl _, c_isNaN_u64 _, ?_⟩ | refine ⟨_, _, DleAll_refl _, fun _ => c_isNaN_u64 _, ?_⟩ | refine ⟨_, _, DleAll_refl _, c_isNaN_u64 _, ?_⟩ | (refine And.intro ?_ ?_; focus (simp; done)) | fail)
  all_goals (conv => whnf)
  all_goals refine dle_int ?_
  all_goals simp only [cmpI, *, cond_true, cond_false]
end Go.Proofs.Ytpipaadjokdgoaa

set_option linter.unusedSimpArgs false
set_option linter.unusedVariables false
set_option maxRecDepth 100000
namespace Go.Proofs.Ytpipaadjokdgoaa
open Go.Lift
/-! package hashing -/
def u64 (n : Int) : DV := .v (.int .u64 n)
def mix1 (x s f : Int) : Int := IntKind.u64.wrap (bits .xor .u64 x (x.fdiv (2 ^ (min s.toNat 64))) * f)
def mixAt (x : Int) : Nat → Int
  | 0 => x
  | 1 => mix1 x 30 13787848793156543929
  | _ => mix1 (mix1 x 30 13787848793156543929) 27 10723151780598845931
def mixR (x : Int) : Int := bits .xor .u64 (mixAt x 2) ((mixAt x 2).fdiv (2 ^ (min (31 : Int).toNat 64)))
theorem c_shifts : Ret Try.prog 97 [] (.agg [u64 30, u64 27, u64 31]) := by
  refine ret_of_body (fn := Try.f97) (c := Try.f97.body.getD .skip) hm hT (by kernel_rfl) Try.func97 (by kernel_rfl) (by kernel_rfl) (by kernel_rfl) (by kernel_rfl) ?_
  repeat' ((conv => whnf); first | refine And.intro (fun h => h) ?_ | refine dcond_t (by assumption) ?_ | refine dcond_f (by assumption) ?_ | (refine dcond_intro ?_ ?_ <;> intro h) | exact .refl | refine And.intro (by kernel_rfl) ?_ | refine And.intro ⟨fun h => h, fun h => h⟩ ?_ | (refine And.intro ?_ ?_; focus (simp; done)) | fail)
theorem c_factors : Ret Try.prog 98 [] (.agg [u64 13787848793156543929, u64 10723151780598845931]) := by
  refine ret_of_body (fn := Try.f98) (c := Try.f98.body.getD .skip) hm hT (by kernel_rfl) Try.func98 (by kernel_rfl) (by kernel_rfl) (by kernel_rfl) (by kernel_rfl) ?_
  repeat' ((conv => whnf); first | refine And.intro (fun h => h) ?_ | refine dcond_t (by assumption) ?_ | refine dcond_f (by assumption) ?_ | (refine dcond_intro ?_ ?_ <;> intro h) | exact .refl | refine And.intro (by kernel_rfl) ?_ | refine And.intro ⟨fun h => h, fun h => h⟩ ?_ | (refine And.intro ?_ ?_; focus (simp; done)) | fail)
theorem c_Mix (x : Int) : Ret Try.prog 95 [u64 x] (u64 (mixR x)) := by
  refine ret_of_body (fn := Try.f95) (c := Try.f95.body.getD .skip) hm hT (by kernel_rfl) Try.func95 (by kernel_rfl) (by kernel_rfl) (by kernel_rfl) (by kernel_rfl) ?_
  repeat' ((conv => whnf); first | refine And.intro (fun h => h) ?_ | refine dcond_t (by assumption) ?_ | refine dcond_f (by assumption) ?_ | (refine dcond_intro ?_ ?_ <;> intro h) | exact .refl | refine And.intro (by kernel_rfl) ?_ | refine And.intro ⟨fun h => h, fun h => h⟩ ?_ | refine .inl ⟨_, _, DleAll_refl _, c_shifts, ?_⟩ | refine ⟨_, _, DleAll_refl _, fun _ => c_shifts, ?_⟩ | refine ⟨_, _, DleAll_refl _, c_shifts, ?_⟩ | refine .inl ⟨_, _, DleAll_refl _, c_factors, ?_⟩ | refine ⟨_, _, DleAll_refl _, fun _ => c_factors, ?_⟩ | refine ⟨_, _, DleAll_refl _, c_factors, ?_⟩ | (refine And.intro ?_ ?_; focus (simp; done)) | fail)
  refine ⟨Nat, fun i => ⟨[(0, u64 (mixAt x i)), (3, .lp 0 0), (4, .lp 1 0), (8, i64 i)], [.cells 104 [u64 30, u64 27, u64 31], .cells 106 [u64 13787848793156543929, u64 10723151780598845931]]⟩, fun i => i ≤ 2, fun i => 2 - i, [], ⟨0, Nat.zero_le _, ?_⟩, ?_⟩
  · exact ⟨by repeat' ((conv => whnf); first | exact trivial | refine And.intro (by (conv => arg 1; whnf); first | (with_reducible exact .refl) | exact dle_int (wrap_succ (by omega)) | exact .refl) ?_), by repeat' ((conv => whnf); first | exact trivial | refine And.intro ?_ ?_ | exact .refl), rfl⟩
  · intro i hi
    repeat' ((conv => whnf); first | refine And.intro (fun h => h) ?_ | refine dcond_t (by assumption) ?_ | refine dcond_f (by assumption) ?_ | (refine dcond_intro ?_ ?_ <;> intro h) | exact .refl | refine And.intro (by kernel_rfl) ?_ | refine And.intro ⟨fun h => h, fun h => h⟩ ?_ | (refine And.intro ?_ ?_; focus (simp; done)) | fail)
    · have hlt : i < 2 := by
        simp at h
        omega
      clear h
      have hc : i = 0 ∨ i = 1 := by omega
      rcases hc with rfl | rfl
      · repeat' ((conv => whnf); first | refine And.intro (fun h => h) ?_ | refine dcond_t (by assumption) ?_ | refine dcond_f (by assumption) ?_ | (refine dcond_intro ?_ ?_ <;> intro h) | exact .refl | refine And.intro (by kernel_rfl) ?_ | refine And.intro ⟨fun h => h, fun h => h⟩ ?_ | refine ⟨0, And.intro ⟨rfl, by decide⟩ ?_⟩ | refine ⟨.v (.int .u64 30), And.intro rfl ?_⟩ | refine ⟨.v (.int .u64 13787848793156543929), And.intro rfl ?_⟩ | (refine And.intro ?_ ?_; focus (simp; done)) | fail)
        all_goals (conv => whnf)
        refine ⟨1, by omega, by decide, ?_⟩
        exact ⟨⟨dle_int rfl, .refl, .refl, .refl, trivial⟩, ⟨.refl, .refl, trivial⟩, rfl⟩
      · repeat' ((conv => whnf); first | refine And.intro (fun h => h) ?_ | refine dcond_t (by assumption) ?_ | refine dcond_f (by assumption) ?_ | (refine dcond_intro ?_ ?_ <;> intro h) | exact .refl | refine And.intro (by kernel_rfl) ?_ | refine And.intro ⟨fun h => h, fun h => h⟩ ?_ | refine ⟨1, And.intro ⟨rfl, by decide⟩ ?_⟩ | refine ⟨.v (.int .u64 27), And.intro rfl ?_⟩ | refine ⟨.v (.int .u64 10723151780598845931), And.intro rfl ?_⟩ | (refine And.intro ?_ ?_; focus (simp; done)) | fail)
        all_goals (conv => whnf)
        refine ⟨2, by omega, by decide, ?_⟩
        exact ⟨⟨dle_int rfl, .refl, .refl, .refl, trivial⟩, ⟨.refl, .refl, trivial⟩, rfl⟩
    · have : i = 2 := by
        simp at h
        omega
      subst this
      repeat' ((conv => whnf); first | refine And.intro (fun h => h) ?_ | refine dcond_t (by assumption) ?_ | refine dcond_f (by assumption) ?_ | (refine dcond_intro ?_ ?_ <;> intro h) | exact .refl | refine And.intro (by kernel_rfl) ?_ | refine And.intro ⟨fun h => h, fun h => h⟩ ?_ | (refine And.intro ?_ ?_; focus (simp; done)) | fail)
      all_goals (conv => whnf)
      all_goals trace_state
def combR (h x : Int) : Int := mixR (IntKind.u64.wrap (h + IntKind.u64.wrap (11400714819323198485 * IntKind.u64.wrap (x + 1))))
theorem c_Combine (h x : Int) : Ret Try.prog 86 [u64 h, u64 x] (u64 (combR h x)) := by
  refine ret_of_body (fn := Try.f86) (c := Try.f86.body.getD .skip) hm hT (by kernel_rfl) Try.func86 (by kernel_rfl) (by kernel_rfl) (by kernel_rfl) (by kernel_rfl) ?_
  repeat' ((conv => whnf); first | refine And.intro (fun h => h) ?_ | refine dcond_t (by assumption) ?_ | refine dcond_f (by assumption) ?_ | (refine dcond_intro ?_ ?_ <;> intro h) | exact .refl | refine And.intro (by kernel_rfl) ?_ | refine And.intro ⟨fun h => h, fun h => h⟩ ?_ | refine .inl ⟨_, _, DleAll_refl _, c_Mix _, ?_⟩ | refine ⟨_, _, DleAll_refl _, fun _ => c_Mix _, ?_⟩ | refine ⟨_, _, DleAll_refl _, c_Mix _, ?_⟩ | (refine And.intro ?_ ?_; focus (simp; done)) | fail)
def tokR (m i : Int) : Int := combR (combR 500085515630 (IntKind.u64.wrap m)) (IntKind.u64.wrap i)
def posR (r m : Int) : Int := combR (IntKind.u64.wrap r) (IntKind.u64.wrap m)
theorem c_Position (r m : Int) : Ret Try.prog 67 [i64 r, i64 m] (u64 (posR r m)) := by
  refine ret_of_body (fn := Try.f67) (c := Try.f67.body.getD .skip) hm hT (by kernel_rfl) Try.func67 (by kernel_rfl) (by kernel_rfl) (by kernel_rfl) (by kernel_rfl) ?_
  repeat' ((conv => whnf); first | refine And.intro (fun h => h) ?_ | refine dcond_t (by assumption) ?_ | refine dcond_f (by assumption) ?_ | (refine dcond_intro ?_ ?_ <;> intro h) | exact .refl | refine And.intro (by kernel_rfl) ?_ | refine And.intro ⟨fun h => h, fun h => h⟩ ?_ | refine .inl ⟨_, _, DleAll_refl _, c_Combine _ _, ?_⟩ | refine ⟨_, _, DleAll_refl _, fun _ => c_Combine _ _, ?_⟩ | refine ⟨_, _, DleAll_refl _, c_Combine _ _, ?_⟩ | (refine And.intro ?_ ?_; focus (simp; done)) | fail)
end Go.Proofs.Ytpipaadjokdgoaa

set_option linter.unusedSimpArgs false
set_option linter.unusedVariables false
set_option maxRecDepth 100000
namespace Go.Proofs.Ytpipaadjokdgoaa
open Go.Lift
open Go.Sort (SWO)
/-- a sorted list of a strict weak order -/
def sortL {β : Type} (cf : β → β → Int) (l : List β) : List β := l.mergeSort fun x y => !Go.Proofs.ltOf cf y x
theorem sortL_perm {β : Type} (cf : β → β → Int) (l : List β) : (sortL cf l).Perm l := List.mergeSort_perm _ _
theorem sortL_sorted {β : Type} {cf : β → β → Int} (hO : SWO (Go.Proofs.ltOf cf)) (l : List β) : (sortL cf l).Pairwise fun x y => Go.Proofs.ltOf cf y x = false := by
  have h := List.pairwise_mergeSort (le := fun x y => !Go.Proofs.ltOf cf y x) (fun a b c h1 h2 => by
    simp only [Bool.not_eq_true'] at *
    exact hO.ntrans _ _ _ h2 h1) (fun a b => by
    cases h : Go.Proofs.ltOf cf b a
    · simp
    · cases h2 : Go.Proofs.ltOf cf a b
      · simp
      · have := hO.trans _ _ _ h h2
        rw [hO.irrefl] at this
        cases this) l
  exact h.imp fun h => by simpa using h
theorem sortL_mem {β : Type} {cf : β → β → Int} {l : List β} {x : β} : x ∈ sortL cf l ↔ x ∈ l := (sortL_perm cf l).mem_iff
theorem sortL_len {β : Type} (cf : β → β → Int) (l : List β) : (sortL cf l).length = l.length := (sortL_perm cf l).length_eq
theorem sorted_eq {β : Type} {cf : β → β → Int} (hanti : ∀ x y, Go.Proofs.ltOf cf x y = false → Go.Proofs.ltOf cf y x = false → x = y) {l l' : List β} (hp : l.Perm l') (h1 : l.Pairwise fun x y => Go.Proofs.ltOf cf y x = false) (h2 : l'.Pairwise fun x y => Go.Proofs.ltOf cf y x = false) : l = l' :=
  List.Perm.eq_of_pairwise (le := fun x y => Go.Proofs.ltOf cf y x = false) (fun a b _ _ h1 h2 => hanti a b h2 h1) h1 h2 hp
end Go.Proofs.Ytpipaadjokdgoaa

set_option linter.unusedSimpArgs false
set_option linter.unusedVariables false
set_option maxRecDepth 100000
namespace Go.Proofs.Ytpipaadjokdgoaa
open Go.Lift
/-! package slices, at lists of integers -/
end Go.Proofs.Ytpipaadjokdgoaa

set_option linter.unusedSimpArgs false
set_option linter.unusedVariables false
set_option maxRecDepth 100000
namespace Go.Proofs.Ytpipaadjokdgoaa
open Go.Lift
/-! plain facts: rising lists, insertion -/
theorem rise_pw {l : List Int} : riseB l = true ↔ l.Pairwise (· < ·) ∧ ∀ x ∈ l, 1 ≤ x ∧ x ≤ 1000 := by
  rw [rise_iff]
  constructor
  · intro h
    have hstep : ∀ i (hi : i + 1 < l.length), l[i] < l[i + 1] := fun i hi => by
      have := (h (i + 1) hi).2.2 (by omega)
      simpa [show i < l.length by omega] using this
    refine ⟨?_, fun x hx => ?_⟩
    · rw [List.pairwise_iff_getElem]
      intro i j hi hj hij
      have key : ∀ d (hd : i + (d + 1) < l.length), l[i] < l[i + (d + 1)] := by
        intro d
        induction d with
        | zero => intro hd; exact hstep i hd
        | succ d ih =>
          intro hd
          have h1 := ih (by omega)
          have h2 := hstep (i + (d + 1)) hd
          exact Int.lt_trans h1 h2
      have := key (j - i - 1) (by omega)
      simpa [show i + (j - i - 1 + 1) = j by omega] using this
    · obtain ⟨i, hi, rfl⟩ := List.getElem_of_mem hx
      have := h i hi
      exact ⟨this.1, this.2.1⟩
  · intro ⟨h1, h2⟩ i hi
    have := h2 _ (List.getElem_mem hi)
    refine ⟨this.1, this.2, fun h0 => ?_⟩
    have h3 := List.pairwise_iff_getElem.1 h1 (i - 1) i (by omega) hi (by omega)
    simpa [show i - 1 < l.length by omega] using h3
theorem ids_pw {l : List Int} {m : Int} : idsB l m = true ↔ (1 ≤ (l.length : Int) ∧ (l.length : Int) ≤ m) ∧ l.Pairwise (· < ·) ∧ ∀ x ∈ l, 1 ≤ x ∧ x ≤ 1000 := by
  rw [ids_eq]
  simp only [Bool.and_eq_true, decide_eq_true_eq, rise_pw]
theorem pw_nodup {l : List Int} (h : l.Pairwise (· < ·)) : l.Nodup := h.imp (fun h => by omega)
/-- insertion, by its definition -/
def insW (l : List Int) (x : Int) : List Int := l.takeWhile (fun y => !decide (x < y)) ++ x :: l.dropWhile (fun y => !decide (x < y))
theorem insW_perm (l : List Int) (x : Int) : (insW l x).Perm (x :: l) := by
  unfold insW
  refine List.perm_middle.trans ?_
  rw [List.takeWhile_append_dropWhile]
theorem insA_eq (l : List Int) (x : Int) : ∀ i, i ≤ l.length → insA l x i = if i ≤ (l.takeWhile (fun y => !decide (x < y))).length then (l.take i, false) else (l.takeWhile (fun y => !decide (x < y)) ++ x :: (l.take i).drop (l.takeWhile (fun y => !decide (x < y))).length, true)
  | 0, _ => by simp [insA]
  | i + 1, hi => by
    have ih := insA_eq l x i (by omega)
    have hg : l.getD i 0 = l[i] := by simp [show i < l.length by omega]
    generalize hA : l.takeWhile (fun y => !decide (x < y)) = A at ih
    have hlen : A.length ≤ l.length := by rw [← hA]; exact (List.takeWhile_prefix _).length_le
    have hpre : ∀ j (hj : j < A.length), ¬ x < l[j]'(by omega) := fun j hj => by
      have h1 : A[j] ∈ l.takeWhile (fun y => !decide (x < y)) := by rw [hA]; exact List.getElem_mem hj
      have h2 := List.all_eq_true.1 (List.all_takeWhile (p := fun y => !decide (x < y)) (l := l)) _ h1
      have h3 : A[j] = l[j]'(by omega) := by
        have hp : A <+: l := by rw [← hA]; exact List.takeWhile_prefix _
        exact hp.getElem hj
      rw [h3] at h2
      simpa using h2
    have hat : ∀ (hj : A.length < l.length), x < l[A.length] := fun hj => by
      have h1 : l.dropWhile (fun y => !decide (x < y)) ≠ [] := by
        intro h
        have := List.takeWhile_append_dropWhile (p := fun y => !decide (x < y)) (l := l)
        rw [h, List.append_nil, hA] at this
        rw [this] at hj
        omega
      have h2 := List.head_dropWhile_not (fun y => !decide (x < y)) h1
      have h3 : (l.dropWhile (fun y => !decide (x < y))).head h1 = l[A.length] := by
        have h4 := List.takeWhile_append_dropWhile (p := fun y => !decide (x < y)) (l := l)
        rw [hA] at h4
        rw [List.head_eq_getElem]
        have : l[A.length] = (A ++ l.dropWhile (fun y => !decide (x < y)))[A.length]'(by rw [h4]; exact hj) := by
          simp only [h4]
        rw [this, List.getElem_append_right (Nat.le_refl _)]
        simp
      rw [h3] at h2
      simpa using h2
    simp only [insA, ih, hg]
    by_cases h1 : i + 1 ≤ A.length
    · have h2 : i ≤ A.length := by omega
      simp only [h1, h2, if_true]
      have hn := hpre i (by omega)
      have hd : decide (x < l[i]'(by omega)) = false := decide_eq_false hn
      simp only [hd, Bool.and_false, cond_false, Prod.mk.injEq, and_true]
      rw [List.take_succ_eq_append_getElem (show i < l.length by omega)]
    · simp only [h1, if_false]
      by_cases h2 : i ≤ A.length
      · have h3 : i = A.length := by omega
        have h4 := hat (by omega)
        simp only [h2, if_true]
        have h5 : x < l[i] := by simpa [h3] using h4
        have h6 : l.take i = A := by
          have hp : A <+: l := by rw [← hA]; exact List.takeWhile_prefix _
          rw [h3]
          exact (List.prefix_iff_eq_take.1 hp).symm
        simp only [h5, decide_true, Bool.not_false, Bool.and_self, cond_true, Prod.mk.injEq, and_true]
        rw [List.take_succ_eq_append_getElem (show i < l.length by omega), h6, List.drop_append_of_le_length (Nat.le_refl _), List.drop_length]
        simp
      · simp only [h2, if_false]
        simp only [Bool.not_true, Bool.false_and, cond_false, Prod.mk.injEq, and_true]
        rw [List.take_succ_eq_append_getElem (show i < l.length by omega), List.drop_append_of_le_length (by rw [List.length_take]; omega)]
        simp
theorem insL_eq (l : List Int) (x : Int) : insL l x = insW l x := by
  have h := insA_eq l x l.length (Nat.le_refl _)
  have ht := List.takeWhile_append_dropWhile (p := fun y => !decide (x < y)) (l := l)
  unfold insL insW
  rw [h]
  generalize hA : l.takeWhile (fun y => !decide (x < y)) = A at ht
  generalize l.dropWhile (fun y => !decide (x < y)) = B at ht
  subst ht
  by_cases hB : (A ++ B).length ≤ A.length
  · have : B = [] := by
      rw [List.length_append] at hB
      exact List.length_eq_zero_iff.1 (by omega)
    subst this
    rw [List.append_nil]
    simp
  · rw [if_neg hB]
    simp only [cond_true]
    rw [List.take_of_length_le (Nat.le_refl _)]
    simp
theorem insW_pw {l : List Int} {x : Int} (h : l.Pairwise (· < ·)) (hx : x ∉ l) : (insW l x).Pairwise (· < ·) := by
  have ht := List.takeWhile_append_dropWhile (p := fun y => !decide (x < y)) (l := l)
  have h1 : ∀ y ∈ l.takeWhile (fun y => !decide (x < y)), y < x := fun y hy => by
    have h2 := List.all_eq_true.1 (List.all_takeWhile (p := fun y => !decide (x < y)) (l := l)) _ hy
    have h3 : y ∈ l := (List.takeWhile_prefix _).subset hy
    simp at h2
    rcases Int.lt_or_eq_of_le h2 with h2 | h2
    · exact h2
    · subst h2; exact absurd h3 hx
  have h2 : ∀ y ∈ l.dropWhile (fun y => !decide (x < y)), x < y := fun y hy => by
    have h3 : l.dropWhile (fun y => !decide (x < y)) ≠ [] := List.ne_nil_of_mem hy
    have h4 := List.head_dropWhile_not (fun y => !decide (x < y)) h3
    simp at h4
    have h5 : (l.dropWhile (fun y => !decide (x < y))).Pairwise (· < ·) := h.sublist (List.dropWhile_sublist _)
    obtain ⟨a, r, hr⟩ := List.exists_cons_of_ne_nil h3
    simp only [hr, List.head_cons] at h4 hy h5 ⊢
    rcases List.mem_cons.1 hy with rfl | hy
    · exact h4
    · have := (List.pairwise_cons.1 h5).1 y hy
      omega
  unfold insW
  generalize l.takeWhile (fun y => !decide (x < y)) = A at *
  generalize l.dropWhile (fun y => !decide (x < y)) = B at *
  subst ht
  rw [List.pairwise_append] at h ⊢
  refine ⟨h.1, List.pairwise_cons.2 ⟨h2, h.2.1⟩, fun a ha b hb => ?_⟩
  rcases List.mem_cons.1 hb with rfl | hb
  · exact h1 a ha
  · exact h.2.2 a ha b hb
theorem ins_ids {l : List Int} {x : Int} {m : Int} (h : idsB l m = true) (hx : x ∉ l) (h1 : 1 ≤ x) (h2 : x ≤ 1000) (hm : (l.length : Int) < m) : idsB (insL l x) m = true := by
  rw [ids_pw] at *
  have hp := insW_perm l x
  rw [insL_eq]
  refine ⟨?_, insW_pw h.2.1 hx, fun y hy => ?_⟩
  · have := hp.length_eq
    simp only [List.length_cons] at this
    omega
  · rcases List.mem_cons.1 (hp.mem_iff.1 hy) with rfl | hy
    · exact ⟨h1, h2⟩
    · exact h.2.2 y hy
theorem filter_ids {l : List Int} {p : Int → Bool} {m : Int} (h : idsB l m = true) (hne : l.filter p ≠ []) : idsB (l.filter p) m = true := by
  rw [ids_pw] at *
  refine ⟨?_, h.2.1.sublist List.filter_sublist, fun y hy => h.2.2 y (List.mem_filter.1 hy).1⟩
  have h1 := List.length_filter_le p l
  have h2 := List.length_pos_iff.2 hne
  omega
/-- each element once, in the order of their first places -/
def uniqL (l : List Int) : List Int := l.foldl (fun o m => if m ∈ o then o else o ++ [m]) []
theorem uniq_snoc (l : List Int) (m : Int) : uniqL (l ++ [m]) = if m ∈ uniqL l then uniqL l else uniqL l ++ [m] := by
  unfold uniqL
  rw [List.foldl_append]
  rfl
theorem uniq_ind {P : List Int → Prop} (h0 : P []) (h1 : ∀ l m, P l → P (l ++ [m])) (l : List Int) : P l := by
  have : ∀ r : List Int, P r.reverse := fun r => by
    induction r with
    | nil => exact h0
    | cons a r ih => rw [List.reverse_cons]; exact h1 _ _ ih
  have h := this l.reverse
  rwa [List.reverse_reverse] at h
theorem uniq_mem {l : List Int} {x : Int} : x ∈ uniqL l ↔ x ∈ l := by
  refine uniq_ind (P := fun l => x ∈ uniqL l ↔ x ∈ l) (by simp [uniqL]) (fun l m ih => ?_) l
  rw [uniq_snoc]
  split
  · rename_i hm
    simp only [ih, List.mem_append, List.mem_singleton]
    constructor
    · exact .inl
    · rintro (h | rfl)
      · exact h
      · exact ih.1 hm
  · simp [ih]
theorem uniq_nodup (l : List Int) : (uniqL l).Nodup := by
  refine uniq_ind (P := fun l => (uniqL l).Nodup) (by simp [uniqL]) (fun l m ih => ?_) l
  rw [uniq_snoc]
  split
  · exact ih
  · rename_i hm
    rw [List.nodup_append]
    exact ⟨ih, by simp, fun a ha b hb => by simp at hb; subst hb; exact fun e => hm (e ▸ ha)⟩
theorem uniq_filter (l : List Int) (p : Int → Bool) : uniqL (l.filter p) = (uniqL l).filter p := by
  refine uniq_ind (P := fun l => uniqL (l.filter p) = (uniqL l).filter p) (by simp [uniqL]) (fun l m ih => ?_) l
  rw [List.filter_append, uniq_snoc]
  cases hp : p m
  · simp only [List.filter_cons, hp, Bool.false_eq_true, if_false, List.filter_nil, List.append_nil, ih]
    split
    · rfl
    · simp [hp]
  · simp only [List.filter_cons, hp, if_true, List.filter_nil]
    rw [uniq_snoc, ih]
    by_cases hm : m ∈ uniqL l
    · simp [hm, hp]
    · simp [hm, hp]
theorem uniq_head (l : List Int) : (uniqL l).head? = l.head? := by
  refine uniq_ind (P := fun l => (uniqL l).head? = l.head?) (by simp [uniqL]) (fun l m ih => ?_) l
  rw [uniq_snoc]
  cases l with
  | nil => simp [uniqL]
  | cons a r =>
    have hne : uniqL (a :: r) ≠ [] := fun h => by
      have : a ∈ uniqL (a :: r) := uniq_mem.2 (by simp)
      rw [h] at this
      cases this
    split
    · rw [ih]; simp
    · rw [List.head?_append, ih]; simp
end Go.Proofs.Ytpipaadjokdgoaa

set_option linter.unusedSimpArgs false
set_option linter.unusedVariables false
set_option maxRecDepth 100000
namespace Go.Proofs.Ytpipaadjokdgoaa
open Go.Lift
/-! the mixer is one to one -/
theorem wrap_u64 (n : Int) : IntKind.u64.wrap n = n % 18446744073709551616 := by
  simp [IntKind.wrap, IntKind.bits, IntKind.signed]
theorem u64_rng (n : Int) : 0 ≤ IntKind.u64.wrap n ∧ IntKind.u64.wrap n < 18446744073709551616 := by
  rw [wrap_u64]; omega
theorem u64_id {n : Int} (h1 : 0 ≤ n) (h2 : n < 18446744073709551616) : IntKind.u64.wrap n = n := by
  rw [wrap_u64]; omega
def xs (s x : Nat) : Nat := x ^^^ (x >>> s)
theorem xs_lt {s x : Nat} (h : x < 2 ^ 64) : xs s x < 2 ^ 64 := by
  unfold xs
  refine Nat.xor_lt_two_pow h ?_
  rw [Nat.shiftRight_eq_div_pow]
  exact Nat.lt_of_le_of_lt (Nat.div_le_self _ _) h
theorem xs_inj {s x y : Nat} (hs : 0 < s) (hx : x < 2 ^ 64) (hy : y < 2 ^ 64) (h : xs s x = xs s y) : x = y := by
  have key : ∀ d i, i + d = 64 ∨ 64 ≤ i → x.testBit i = y.testBit i := by
    intro d
    induction d using Nat.strongRecOn with
    | ind d ih =>
      intro i hi
      rcases Nat.lt_or_ge i 64 with h6 | h6
      · have hb := congrArg (fun n => n.testBit i) h
        simp only [xs, Nat.testBit_xor, Nat.testBit_shiftRight] at hb
        have hn : x.testBit (s + i) = y.testBit (s + i) := by
          rcases Nat.lt_or_ge (s + i) 64 with h7 | h7
          · exact ih (64 - (s + i)) (by omega) (s + i) (.inl (by omega))
          · exact ih 0 (by omega) (s + i) (.inr h7)
        rw [hn] at hb
        cases hxi : x.testBit i <;> cases hyi : y.testBit i <;> cases hsi : y.testBit (s + i) <;> rw [hxi, hyi, hsi] at hb <;> simp at hb <;> rfl
      · rw [Nat.testBit_lt_two_pow (Nat.lt_of_lt_of_le hx (Nat.pow_le_pow_right (by decide) h6)), Nat.testBit_lt_two_pow (Nat.lt_of_lt_of_le hy (Nat.pow_le_pow_right (by decide) h6))]
  refine Nat.eq_of_testBit_eq fun i => ?_
  rcases Nat.lt_or_ge i 64 with h6 | h6
  · exact key (64 - i) i (.inl (by omega))
  · exact key 0 i (.inr h6)
theorem bits_xs {x : Nat} (h : x < 2 ^ 64) (s : Nat) : bits .xor .u64 (x : Int) ((x : Int).fdiv (2 ^ s)) = ((xs s x : Nat) : Int) := by
  have hd : (x : Int).fdiv (2 ^ s) = ((x >>> s : Nat) : Int) := by
    rw [Int.fdiv_eq_ediv_of_nonneg _ (Int.pow_nonneg (by decide)), Nat.shiftRight_eq_div_pow]
    norm_cast
  rw [hd]
  have h2 : x >>> s < 2 ^ 64 := by
    rw [Nat.shiftRight_eq_div_pow]
    exact Nat.lt_of_le_of_lt (Nat.div_le_self _ _) h
  have e : (BitVec.ofInt 64 (x : Int) ^^^ BitVec.ofInt 64 ((x >>> s : Nat) : Int)).toNat = xs s x := by
    rw [BitVec.toNat_xor, BitVec.ofInt_natCast, BitVec.ofInt_natCast, BitVec.toNat_ofNat, BitVec.toNat_ofNat, Nat.mod_eq_of_lt h, Nat.mod_eq_of_lt h2]
    rfl
  show IntKind.u64.wrap ((BitVec.ofInt 64 (x : Int) ^^^ BitVec.ofInt 64 ((x >>> s : Nat) : Int)).toNat : Int) = _
  rw [e]
  have := xs_lt (s := s) h
  exact u64_id (by omega) (by omega)
theorem mul_inj {c ci a b : Int} (hc : c * ci % 18446744073709551616 = 1) (ha : 0 ≤ a ∧ a < 18446744073709551616) (hb : 0 ≤ b ∧ b < 18446744073709551616) (h : IntKind.u64.wrap (a * c) = IntKind.u64.wrap (b * c)) : a = b := by
  rw [wrap_u64, wrap_u64] at h
  have h1 : (a * c * ci) % 18446744073709551616 = (b * c * ci) % 18446744073709551616 := by
    rw [Int.mul_emod, h, ← Int.mul_emod]
  rw [Int.mul_assoc, Int.mul_assoc, Int.mul_emod a, Int.mul_emod b, hc] at h1
  simp only [Int.mul_one, Int.emod_emod_of_dvd _ (Int.dvd_refl _)] at h1
  omega
def mixN (x : Nat) : Nat := xs 31 ((IntKind.u64.wrap ((xs 27 ((IntKind.u64.wrap ((xs 30 x : Nat) * 13787848793156543929)).toNat) : Nat) * 10723151780598845931)).toNat)
theorem w_nat (n : Int) : (((IntKind.u64.wrap n).toNat : Nat) : Int) = IntKind.u64.wrap n := Int.toNat_of_nonneg (u64_rng n).1
theorem w_lt (n : Int) : (IntKind.u64.wrap n).toNat < 2 ^ 64 := by
  have := u64_rng n
  omega
theorem mix_nat {x : Nat} (h : x < 2 ^ 64) : mixR (x : Int) = ((mixN x : Nat) : Int) := by
  have m30 : min (30 : Int).toNat 64 = 30 := rfl
  have m27 : min (27 : Int).toNat 64 = 27 := rfl
  have m31 : min (31 : Int).toNat 64 = 31 := rfl
  unfold mixR
  simp only [mixAt, mix1, m30, m27, m31]
  rw [bits_xs h]
  rw [← w_nat ((xs 30 x : Nat) * 13787848793156543929)]
  rw [bits_xs (w_lt _)]
  rw [← w_nat (((xs 27 _ : Nat) : Int) * 10723151780598845931)]
  rw [bits_xs (w_lt _)]
  rfl
theorem mixN_inj {x y : Nat} (hx : x < 2 ^ 64) (hy : y < 2 ^ 64) (h : mixN x = mixN y) : x = y := by
  unfold mixN at h
  have h1 := xs_inj (by decide) (w_lt _) (w_lt _) h
  have h2 : IntKind.u64.wrap (((xs 27 ((IntKind.u64.wrap ((xs 30 x : Nat) * 13787848793156543929)).toNat) : Nat) : Int) * 10723151780598845931) = IntKind.u64.wrap (((xs 27 ((IntKind.u64.wrap ((xs 30 y : Nat) * 13787848793156543929)).toNat) : Nat) : Int) * 10723151780598845931) := by
    rw [← w_nat, ← w_nat (((xs 27 ((IntKind.u64.wrap ((xs 30 y : Nat) * 13787848793156543929)).toNat) : Nat) : Int) * 10723151780598845931), h1]
  have b1 := xs_lt (s := 27) (w_lt ((xs 30 x : Nat) * 13787848793156543929))
  have b2 := xs_lt (s := 27) (w_lt ((xs 30 y : Nat) * 13787848793156543929))
  have h3 := mul_inj (ci := 3573116690164977347) (by decide) (by omega) (by omega) h2
  have h4 := xs_inj (by decide) (w_lt _) (w_lt _) (Int.ofNat_inj.1 h3)
  have h5 : IntKind.u64.wrap (((xs 30 x : Nat) : Int) * 13787848793156543929) = IntKind.u64.wrap (((xs 30 y : Nat) : Int) * 13787848793156543929) := by
    rw [← w_nat, ← w_nat (((xs 30 y : Nat) : Int) * 13787848793156543929), h4]
  have b3 := xs_lt (s := 30) hx
  have b4 := xs_lt (s := 30) hy
  have h6 := mul_inj (ci := 10871156337175269513) (by decide) (by omega) (by omega) h5
  exact xs_inj (by decide) hx hy (Int.ofNat_inj.1 h6)
theorem mixR_rng {a : Int} (h1 : 0 ≤ a) (h2 : a < 18446744073709551616) : 0 ≤ mixR a ∧ mixR a < 18446744073709551616 := by
  obtain ⟨x, rfl⟩ := Int.eq_ofNat_of_zero_le h1
  have := mix_nat (x := x) (by omega)
  have h3 : mixN x < 2 ^ 64 := xs_lt (w_lt _)
  omega
theorem mixR_inj {a b : Int} (h1 : 0 ≤ a) (h2 : a < 18446744073709551616) (h3 : 0 ≤ b) (h4 : b < 18446744073709551616) (h : mixR a = mixR b) : a = b := by
  obtain ⟨x, rfl⟩ := Int.eq_ofNat_of_zero_le h1
  obtain ⟨y, rfl⟩ := Int.eq_ofNat_of_zero_le h3
  rw [mix_nat (x := x) (by omega), mix_nat (x := y) (by omega)] at h
  rw [mixN_inj (by omega) (by omega) (Int.ofNat_inj.1 h)]
theorem posR_rng (r m : Int) : 0 ≤ posR r m ∧ posR r m < 18446744073709551616 := mixR_rng (u64_rng _).1 (u64_rng _).2
theorem posR_inj {r a b : Int} (ha : 1 ≤ a ∧ a ≤ 1000) (hb : 1 ≤ b ∧ b ≤ 1000) (h : posR r a = posR r b) : a = b := by
  unfold posR combR at h
  have h1 := mixR_inj (u64_rng _).1 (u64_rng _).2 (u64_rng _).1 (u64_rng _).2 h
  rw [u64_id (n := a) (by omega) (by omega), u64_id (n := b) (by omega) (by omega), u64_id (n := a + 1) (by omega) (by omega), u64_id (n := b + 1) (by omega) (by omega)] at h1
  have r1 := u64_rng (11400714819323198485 * (a + 1))
  have r2 := u64_rng (11400714819323198485 * (b + 1))
  have h2 : IntKind.u64.wrap (11400714819323198485 * (a + 1)) = IntKind.u64.wrap (11400714819323198485 * (b + 1)) := by
    generalize IntKind.u64.wrap (11400714819323198485 * (a + 1)) = p at *
    generalize IntKind.u64.wrap (11400714819323198485 * (b + 1)) = q at *
    have r0 := u64_rng r
    generalize IntKind.u64.wrap r = R at h1 r0
    rw [wrap_u64 (R + p), wrap_u64 (R + q)] at h1
    omega
  rw [Int.mul_comm, Int.mul_comm 11400714819323198485] at h2
  have := mul_inj (ci := 17428512612931826493) (by decide) (by omega) (by omega) h2
  omega
end Go.Proofs.Ytpipaadjokdgoaa

set_option linter.unusedSimpArgs false
set_option linter.unusedVariables false
set_option maxRecDepth 100000
namespace Go.Proofs.Ytpipaadjokdgoaa
open Go.Lift
open Go.Sort (SWO)
/-! package overlay: the order of a ring -/
def cmpPos (r a b : Int) : Int := cmpI (posR r a) (posR r b)
theorem pos_swo (r : Int) : SWO (Go.Proofs.ltOf (cmpPos r)) where
  irrefl x := by
    have := (cmp_iff (posR r x) (posR r x)).1
    simp only [Go.Proofs.ltOf, cmpPos, decide_eq_false_iff_not, this]
    omega
  trans x y z h1 h2 := by
    simp only [Go.Proofs.ltOf, cmpPos, decide_eq_true_eq, (cmp_iff _ _).1] at *
    omega
  ntrans x y z h1 h2 := by
    simp only [Go.Proofs.ltOf, cmpPos, decide_eq_false_iff_not, (cmp_iff _ _).1] at *
    omega
theorem ltPos (r a b : Int) : Go.Proofs.ltOf (cmpPos r) a b = decide (posR r a < posR r b) := by
  simp only [Go.Proofs.ltOf, cmpPos, (cmp_iff _ _).1]
theorem pos_anti {r a b : Int} (ha : 1 ≤ a ∧ a ≤ 1000) (hb : 1 ≤ b ∧ b ≤ 1000) (h1 : Go.Proofs.ltOf (cmpPos r) a b = false) (h2 : Go.Proofs.ltOf (cmpPos r) b a = false) : a = b := by
  rw [ltPos, decide_eq_false_iff_not] at h1 h2
  have h : posR r a = posR r b := by omega
  exact posR_inj ha hb h
def orderR (ms : List Int) (r : Int) : List Int := bif !idsB ms 16 || decide (r < 0) || decide (5 ≤ r) then [] else sortL (cmpPos r) ms
theorem order_in {ms : List Int} {r : Int} (h : idsB ms 16 = true) (h1 : 0 ≤ r) (h2 : r < 5) : orderR ms r = sortL (cmpPos r) ms := by
  have e1 : decide (r < 0) = false := decide_eq_false (by omega)
  have e2 : decide (5 ≤ r) = false := decide_eq_false (by omega)
  simp only [orderR, h, e1, e2, Bool.not_true, Bool.or_self, cond_false]
theorem order_len (ms : List Int) (r : Int) : (orderR ms r).length ≤ ms.length := by
  unfold orderR
  cases (!idsB ms 16 || decide (r < 0) || decide (5 ≤ r))
  · simp only [cond_false, sortL_len]; exact Nat.le_refl _
  · simp
def nxtR (o : List Int) (id : Int) : Int := o.getD (((placeB o id).toNat + 1) % o.length) 0
def subjAt (ms : List Int) (id : Int) (i : Nat) : List Int := (List.range i).map fun (r : Nat) => nxtR (orderR ms r) id
def subjR (ms : List Int) (id : Int) : List Int := bif !idsB ms 16 || !inB ms id || decide ((ms.length : Int) = 1) then [] else subjAt ms id 5
theorem place_of {l : List Int} {x : Int} (h : x ∈ l) : ∃ k : Nat, placeB l x = k ∧ k < l.length := by
  rcases hf : (List.range l.length).find? (fun i => decide (l[i]? = some x)) with _ | n
  · obtain ⟨i, hi, rfl⟩ := List.getElem_of_mem h
    have := List.find?_eq_none.1 hf i (List.mem_range.2 hi)
    simp [hi] at this
  · refine ⟨n, by simp only [placeB, findB, hf], ?_⟩
    have := List.mem_range.1 (List.mem_of_find?_eq_some hf)
    exact this
theorem sub_bad {ms : List Int} {id : Int} (h : (!idsB ms 16 || !inB ms id || decide ((ms.length : Int) = 1)) = true) : subjR ms id = [] := by
  simp only [subjR, h, cond_true]
theorem sub_good {ms : List Int} {id : Int} (h : (!idsB ms 16 || !inB ms id || decide ((ms.length : Int) = 1)) = false) : idsB ms 16 = true ∧ inB ms id = true ∧ (2 ≤ ms.length ∧ ms.length ≤ 16) ∧ subjR ms id = subjAt ms id 5 := by
  have h' := h
  simp only [Bool.or_eq_false_iff, Bool.not_eq_false', decide_eq_false_iff_not] at h'
  have := (ids_pw.1 h'.1.1).1
  exact ⟨h'.1.1, h'.1.2, by omega, by simp only [subjR, h, cond_false]⟩
theorem sub_cond (ms : List Int) (id : Int) : (!idsB ms 16 || decide ((ms.length : Int) < 2) || !inB ms id) = (!idsB ms 16 || !inB ms id || decide ((ms.length : Int) = 1)) := by
  cases hv : idsB ms 16
  · simp
  · have := (ids_pw.1 hv).1
    have e : decide ((ms.length : Int) < 2) = decide ((ms.length : Int) = 1) := decide_eq_decide.2 (by omega)
    rw [e]
    cases decide ((ms.length : Int) = 1) <;> cases inB ms id <;> rfl
end Go.Proofs.Ytpipaadjokdgoaa

set_option linter.unusedSimpArgs false
set_option linter.unusedVariables false
set_option maxRecDepth 100000
namespace Go.Proofs.Ytpipaadjokdgoaa
open Go.Lift
/-! reference 2 and reference 4 -/
theorem c_ref2_Mix (x : Int) : Ret Try.prog 88 [u64 x] (u64 (mixR x)) := by
  refine ret_of_body (fn := Try.f88) (c := Try.f88.body.getD .skip) hm hT (by kernel_rfl) Try.func88 (by kernel_rfl) (by kernel_rfl) (by kernel_rfl) (by kernel_rfl) ?_
  repeat' ((conv => whnf); first | refine And.intro (fun h => h) ?_ | refine dcond_t (by assumption) ?_ | refine dcond_f (by assumption) ?_ | (refine dcond_intro ?_ ?_ <;> intro h) | exact .refl | refine And.intro (by kernel_rfl) ?_ | refine And.intro ⟨fun h => h, fun h => h⟩ ?_ | (refine And.intro ?_ ?_; focus (simp; done)) | fail)
theorem c_ref2_Combine (h x : Int) : Ret Try.prog 74 [u64 h, u64 x] (u64 (combR h x)) := by
  refine ret_of_body (fn := Try.f74) (c := Try.f74.body.getD .skip) hm hT (by kernel_rfl) Try.func74 (by kernel_rfl) (by kernel_rfl) (by kernel_rfl) (by kernel_rfl) ?_
  repeat' ((conv => whnf); first | refine And.intro (fun h => h) ?_ | refine dcond_t (by assumption) ?_ | refine dcond_f (by assumption) ?_ | (refine dcond_intro ?_ ?_ <;> intro h) | exact .refl | refine And.intro (by kernel_rfl) ?_ | refine And.intro ⟨fun h => h, fun h => h⟩ ?_ | refine .inl ⟨_, _, DleAll_refl _, c_ref2_Mix _, ?_⟩ | refine ⟨_, _, DleAll_refl _, fun _ => c_ref2_Mix _, ?_⟩ | refine ⟨_, _, DleAll_refl _, c_ref2_Mix _, ?_⟩ | (refine And.intro ?_ ?_; focus (simp; done)) | fail)
theorem c_ref2_Position (r m : Int) : Ret Try.prog 61 [i64 r, i64 m] (u64 (posR r m)) := by
  refine ret_of_body (fn := Try.f61) (c := Try.f61.body.getD .skip) hm hT (by kernel_rfl) Try.func61 (by kernel_rfl) (by kernel_rfl) (by kernel_rfl) (by kernel_rfl) ?_
  repeat' ((conv => whnf); first | refine And.intro (fun h => h) ?_ | refine dcond_t (by assumption) ?_ | refine dcond_f (by assumption) ?_ | (refine dcond_intro ?_ ?_ <;> intro h) | exact .refl | refine And.intro (by kernel_rfl) ?_ | refine And.intro ⟨fun h => h, fun h => h⟩ ?_ | refine .inl ⟨_, _, DleAll_refl _, c_ref2_Combine _ _, ?_⟩ | refine ⟨_, _, DleAll_refl _, fun _ => c_ref2_Combine _ _, ?_⟩ | refine ⟨_, _, DleAll_refl _, c_ref2_Combine _ _, ?_⟩ | (refine And.intro ?_ ?_; focus (simp; done)) | fail)
/-- insertion by position -/
def atP (r : Int) (o : List Int) (x : Int) : Nat := (o.takeWhile fun y => decide (posR r y < posR r x)).length
def insP (r : Int) (o : List Int) (x : Int) : List Int := o.take (atP r o x) ++ [x] ++ o.drop (atP r o x)
def refO (r : Int) (ms : List Int) (i : Nat) : List Int := (ms.take i).foldl (insP r) []
theorem atP_le (r : Int) (o : List Int) (x : Int) : atP r o x ≤ o.length := (List.takeWhile_prefix _).length_le
theorem atP_before {r : Int} {o : List Int} {x : Int} {j : Nat} (h : j < atP r o x) : posR r (o.getD j 0) < posR r x := by
  have hl := atP_le r o x
  have h1 : (o.takeWhile fun y => decide (posR r y < posR r x))[j]'h ∈ o.takeWhile fun y => decide (posR r y < posR r x) := List.getElem_mem h
  have h2 := List.all_eq_true.1 (List.all_takeWhile (p := fun y => decide (posR r y < posR r x)) (l := o)) _ h1
  have h3 : (o.takeWhile fun y => decide (posR r y < posR r x))[j]'h = o[j]'(by omega) := (List.takeWhile_prefix _).getElem h
  rw [h3] at h2
  simpa [show j < o.length by omega] using h2
theorem atP_eq {r : Int} {o : List Int} {x : Int} {k : Nat} (hk : k ≤ o.length) (h1 : ∀ j, j < k → posR r (o.getD j 0) < posR r x) (h2 : k = o.length ∨ ¬ posR r (o.getD k 0) < posR r x) : atP r o x = k := by
  have ht : o.takeWhile (fun y => decide (posR r y < posR r x)) = o.take k := by
    conv => lhs; rw [← List.take_append_drop k o]
    rw [List.takeWhile_append_of_pos]
    · have : (o.drop k).takeWhile (fun y => decide (posR r y < posR r x)) = [] := by
        rcases h2 with h2 | h2
        · rw [h2, List.drop_length]; rfl
        · rcases Nat.lt_or_ge k o.length with h3 | h3
          · rw [List.drop_eq_getElem_cons h3, List.takeWhile_cons]
            have : ¬ posR r o[k] < posR r x := by simpa [h3] using h2
            simp [this]
          · rw [List.drop_eq_nil_of_le h3]; rfl
      rw [this, List.append_nil]
    · intro y hy
      obtain ⟨j, hj, rfl⟩ := List.getElem_of_mem hy
      rw [List.length_take] at hj
      have := h1 j (by omega)
      simp only [List.getElem_take]
      simpa [show j < o.length by omega] using this
  rw [atP, ht, List.length_take]
  omega
theorem insP_perm (r : Int) (o : List Int) (x : Int) : (insP r o x).Perm (x :: o) := by
  unfold insP
  rw [List.append_assoc, List.singleton_append]
  refine List.perm_middle.trans ?_
  rw [List.take_append_drop]
theorem refO_perm (r : Int) (ms : List Int) : ∀ i, (refO r ms i).Perm (ms.take i)
  | 0 => by simp [refO]
  | i + 1 => by
    rcases Nat.lt_or_ge i ms.length with h | h
    · have ih := refO_perm r ms i
      have e : refO r ms (i + 1) = insP r (refO r ms i) ms[i] := by
        simp only [refO, List.take_succ_eq_append_getElem h, List.foldl_append]
        rfl
      rw [e, List.take_succ_eq_append_getElem h]
      refine (insP_perm _ _ _).trans ?_
      refine (List.Perm.cons _ ih).trans ?_
      exact (List.perm_append_singleton _ _).symm
    · have e : refO r ms (i + 1) = refO r ms i := by
        simp only [refO, List.take_of_length_le (show ms.length ≤ i + 1 by omega), List.take_of_length_le h]
      rw [e, List.take_of_length_le (show ms.length ≤ i + 1 by omega)]
      have := refO_perm r ms i
      rwa [List.take_of_length_le h] at this
theorem refO_succ {r : Int} {ms : List Int} {i : Nat} (h : i < ms.length) : refO r ms (i + 1) = insP r (refO r ms i) ms[i] := by
  simp only [refO, List.take_succ_eq_append_getElem h, List.foldl_append]
  rfl
theorem refO_len {r : Int} {ms : List Int} {i : Nat} (h : i ≤ ms.length) : (refO r ms i).length = i := by
  have := (refO_perm r ms i).length_eq
  rw [List.length_take] at this
  omega
theorem insP_sorted {r : Int} {o : List Int} {x : Int} (h : o.Pairwise fun a b => posR r a ≤ posR r b) : (insP r o x).Pairwise fun a b => posR r a ≤ posR r b := by
  have hl := atP_le r o x
  unfold insP
  rw [List.append_assoc, List.singleton_append]
  have h1 : ∀ y ∈ o.take (atP r o x), posR r y < posR r x := fun y hy => by
    obtain ⟨j, hj, rfl⟩ := List.getElem_of_mem hy
    rw [List.length_take] at hj
    have := atP_before (r := r) (o := o) (x := x) (j := j) (by omega)
    simp only [List.getElem_take]
    simpa [show j < o.length by omega] using this
  have h2 : ∀ y ∈ o.drop (atP r o x), posR r x ≤ posR r y := fun y hy => by
    have ht := List.takeWhile_append_dropWhile (p := fun y => decide (posR r y < posR r x)) (l := o)
    have hd : o.drop (atP r o x) = o.dropWhile fun y => decide (posR r y < posR r x) := by
      have e : (o.takeWhile (fun y => decide (posR r y < posR r x)) ++ o.dropWhile (fun y => decide (posR r y < posR r x))).drop (o.takeWhile (fun y => decide (posR r y < posR r x))).length = o.dropWhile (fun y => decide (posR r y < posR r x)) := by
        rw [List.drop_append_of_le_length (Nat.le_refl _), List.drop_length, List.nil_append]
      rw [ht] at e
      exact e
    rw [hd] at hy
    have hne : o.dropWhile (fun y => decide (posR r y < posR r x)) ≠ [] := List.ne_nil_of_mem hy
    have h4 := List.head_dropWhile_not (fun y => decide (posR r y < posR r x)) hne
    simp only [decide_eq_false_iff_not] at h4
    have h5 : (o.dropWhile (fun y => decide (posR r y < posR r x))).Pairwise fun a b => posR r a ≤ posR r b := h.sublist (List.dropWhile_sublist _)
    obtain ⟨a, q, hq⟩ := List.exists_cons_of_ne_nil hne
    simp only [hq, List.head_cons] at h4 hy h5
    rcases List.mem_cons.1 hy with rfl | hy
    · omega
    · have := (List.pairwise_cons.1 h5).1 y hy
      omega
  have h3 := List.take_append_drop (atP r o x) o
  generalize o.take (atP r o x) = A at *
  generalize o.drop (atP r o x) = B at *
  subst h3
  rw [List.pairwise_append] at h ⊢
  refine ⟨h.1, List.pairwise_cons.2 ⟨h2, h.2.1⟩, fun a ha b hb => ?_⟩
  rcases List.mem_cons.1 hb with rfl | hb
  · exact Int.le_of_lt (h1 a ha)
  · exact h.2.2 a ha b hb
theorem refO_sorted (r : Int) (ms : List Int) : ∀ i, i ≤ ms.length → (refO r ms i).Pairwise fun a b => posR r a ≤ posR r b
  | 0, _ => by simp [refO]
  | i + 1, h => by
    rw [refO_succ (by omega)]
    exact insP_sorted (refO_sorted r ms i (by omega))
theorem refO_eq {r : Int} {ms : List Int} (hv : idsB ms 16 = true) (h1 : 0 ≤ r) (h2 : r < 5) : refO r ms ms.length = orderR ms r := by
  rw [order_in hv h1 h2]
  have hb := (ids_pw.1 hv).2.2
  have hp := refO_perm r ms ms.length
  rw [List.take_length] at hp
  refine List.Perm.eq_of_pairwise (le := fun x y => Go.Proofs.ltOf (cmpPos r) y x = false) (fun a b ha hb' h1 h2 => pos_anti (hb a (hp.mem_iff.1 ha)) (hb b (sortL_mem.1 hb')) h2 h1) ?_ (sortL_sorted (pos_swo r) _) (hp.trans (sortL_perm _ _).symm)
  refine (refO_sorted r ms ms.length (Nat.le_refl _)).imp fun {a b} h => ?_
  rw [ltPos]
  exact decide_eq_false (by omega)
theorem c_ref4_Order (ms : List Int) (hl : ms.length ≤ maxLen) (r : Int) : Ret Try.prog 60 [.lst 1 (ms.map intE) false, i64 r] (.lst 1 ((orderR ms r).map intE) false) := by
  have e1 := c_ref3_ValidMembers ms hl
  have ho : orderR ms r = bif !idsB ms 16 || decide (r < 0) || decide (5 ≤ r) then [] else sortL (cmpPos r) ms := rfl
  refine ret_of_body (fn := Try.f60) (c := Try.f60.body.getD .skip) hm hT (by kernel_rfl) Try.func60 (by kernel_rfl) (by kernel_rfl) (by kernel_rfl) (by kernel_rfl) ?_
  repeat' ((conv => whnf); first | refine And.intro (fun h => h) ?_ | refine dcond_t (by assumption) ?_ | refine dcond_f (by assumption) ?_ | (refine dcond_intro ?_ ?_ <;> intro h) | exact .refl | refine And.intro (by kernel_rfl) ?_ | refine And.intro ⟨fun h => h, fun h => h⟩ ?_ | refine .inl ⟨_, _, DleAll_refl _, e1, ?_⟩ | refine ⟨_, _, DleAll_refl _, fun _ => e1, ?_⟩ | refine ⟨_, _, DleAll_refl _, e1, ?_⟩ | (refine And.intro ?_ ?_; focus (simp; done)) | fail)
  all_goals (conv => whnf)
  · rw [ho, h]
    exact .nl
  · have hs : idsB ms 16 = true ∧ 0 ≤ r ∧ r < 5 := by
      simp only [Bool.or_eq_false_iff, Bool.not_eq_false', decide_eq_false_iff_not] at h
      exact ⟨h.1.1, by omega, by omega⟩
    clear h ho
    obtain ⟨hv, hr1, hr2⟩ := hs
    have h16 := (ids_pw.1 hv).1
    rw [← refO_eq hv hr1 hr2]
    refine ⟨Nat, fun i => ⟨[(0, .lst 1 (ms.map intE) false), (1, i64 r), (5, .lst 1 ((refO r ms i).map intE) false), (6, i64 i)], []⟩, fun i => i ≤ ms.length, fun i => ms.length - i, [.shut 5], ⟨0, Nat.zero_le _, ?_⟩, ?_⟩
    · exact ⟨⟨.refl, .refl, .nl, .refl, trivial⟩, trivial, rfl⟩
    · intro i hi
      have hol := refO_len (r := r) hi
      repeat' ((conv => whnf); first | refine And.intro (fun h => h) ?_ | refine dcond_t (by assumption) ?_ | refine dcond_f (by assumption) ?_ | (refine dcond_intro ?_ ?_ <;> intro h) | exact .refl | refine And.intro (by kernel_rfl) ?_ | refine And.intro ⟨fun h => h, fun h => h⟩ ?_ | (refine And.intro ?_ ?_; focus (simp; done)) | fail)
      · have hlt : i < ms.length := by simpa using h
        clear h
        have hsn := refO_succ (r := r) hlt
        generalize refO r ms i = O at hol hsn
        conv => whnf
        refine ⟨Nat, fun k => ⟨[(0, .lst 1 (ms.map intE) false), (1, i64 r), (5, .lst 1 (O.map intE) false), (6, i64 i), (7, i64 k)], []⟩, fun k => k ≤ O.length ∧ ∀ j, j < k → posR r (O.getD j 0) < posR r (ms[i]'hlt), fun k => O.length - k, [], ⟨0, ⟨Nat.zero_le _, by omega⟩, ?_⟩, ?_⟩
        · exact ⟨by repeat' ((conv => whnf); first | exact trivial | refine And.intro (by (conv => arg 1; whnf); first | (with_reducible exact .refl) | exact dle_int (wrap_succ (by omega)) | exact .refl) ?_), by repeat' ((conv => whnf); first | exact trivial | refine And.intro ?_ ?_ | exact .refl), rfl⟩
        · intro k ⟨hk, hall⟩
          have hgk : decide ((k : Int) < ((O.map intE).length : Int)) = true → (O.map intE)[k]? = some (intE (O.getD k 0)) := fun h => by
            have h := of_decide_eq_true h
            rw [List.length_map] at h
            have : k < O.length := by omega
            simp [this]
          have ep1 := c_ref2_Position r (O.getD k 0)
          have ep2 := c_ref2_Position r (ms[i]'hlt)
          repeat' ((conv => whnf); first | refine And.intro (fun h => h) ?_ | refine dcond_t (by assumption) ?_ | refine dcond_f (by assumption) ?_ | (refine dcond_intro ?_ ?_ <;> intro h) | exact .refl | refine And.intro (by kernel_rfl) ?_ | refine And.intro ⟨fun h => h, fun h => h⟩ ?_ | refine ⟨k, _, And.intro ⟨⟨fun h => h, fun h => h⟩, fun hg => ⟨rfl, hgk hg⟩⟩ ?_⟩ | refine ⟨i, intE (ms[i]'hlt), And.intro ⟨⟨fun h => h, fun h => h⟩, fun hg => ⟨rfl, get_map hlt⟩⟩ ?_⟩ | refine .inl ⟨_, _, DleAll_refl _, ep1, ?_⟩ | refine ⟨_, _, DleAll_refl _, fun _ => ep1, ?_⟩ | refine ⟨_, _, DleAll_refl _, ep1, ?_⟩ | refine .inl ⟨_, _, DleAll_refl _, ep2, ?_⟩ | refine ⟨_, _, DleAll_refl _, fun _ => ep2, ?_⟩ | refine ⟨_, _, DleAll_refl _, ep2, ?_⟩ | (refine And.intro ?_ ?_; focus (simp; done)) | fail)
          all_goals (conv => whnf)
          · have hk2 : k < O.length ∧ posR r (O.getD k 0) < posR r (ms[i]'hlt) := by
              simp only [Bool.and_eq_true, decide_eq_true_eq, List.length_map] at h
              exact ⟨by omega, h.2⟩
            refine ⟨k + 1, ⟨hk2.1, fun j hj => ?_⟩, by simp only []; omega, ?_⟩
            · rcases Nat.lt_succ_iff_lt_or_eq.1 hj with hj | rfl
              · exact hall j hj
              · exact hk2.2
            · exact ⟨by repeat' ((conv => whnf); first | exact trivial | refine And.intro (by (conv => arg 1; whnf); first | (with_reducible exact .refl) | exact dle_int (wrap_succ (by omega)) | exact .refl) ?_), by repeat' ((conv => whnf); first | exact trivial | refine And.intro ?_ ?_ | exact .refl), rfl⟩
          · have hat : atP r O (ms[i]'hlt) = k := by
              refine atP_eq hk hall ?_
              simp only [Bool.and_eq_false_iff, decide_eq_false_iff_not, List.length_map] at h
              rcases h with h | h
              · exact .inl (by omega)
              · exact .inr h
            clear h
            repeat' ((conv => whnf); first | refine And.intro (fun h => h) ?_ | refine dcond_t (by assumption) ?_ | refine dcond_f (by assumption) ?_ | (refine dcond_intro ?_ ?_ <;> intro h) | exact .refl | refine And.intro (by kernel_rfl) ?_ | refine And.intro ⟨fun h => h, fun h => h⟩ ?_ | refine ⟨0, k, And.intro ⟨rfl, ⟨_, rfl⟩, Nat.zero_le _, by simpa using hk⟩ ?_⟩ | (refine And.intro ?_ ?_; focus (simp; done)) | fail)
            all_goals (conv => whnf)
            refine And.intro (fitsI (by simp; omega)) ?_
            repeat' ((conv => whnf); first | refine And.intro (fun h => h) ?_ | refine dcond_t (by assumption) ?_ | refine dcond_f (by assumption) ?_ | (refine dcond_intro ?_ ?_ <;> intro h) | exact .refl | refine And.intro (by kernel_rfl) ?_ | refine And.intro ⟨fun h => h, fun h => h⟩ ?_ | refine ⟨_, _, And.intro ⟨rfl, get_map hlt⟩ ?_⟩ | (refine And.intro ?_ ?_; focus (simp; done)) | fail)
            all_goals (conv => whnf)
            refine And.intro (fitsI (by simp; omega)) ?_
            repeat' ((conv => whnf); first | refine And.intro (fun h => h) ?_ | refine dcond_t (by assumption) ?_ | refine dcond_f (by assumption) ?_ | (refine dcond_intro ?_ ?_ <;> intro h) | exact .refl | refine And.intro (by kernel_rfl) ?_ | refine And.intro ⟨fun h => h, fun h => h⟩ ?_ | refine ⟨k, And.intro ⟨⟨_, rfl⟩, by simpa using hk⟩ ?_⟩ | (refine And.intro ?_ ?_; focus (simp; done)) | fail)
            all_goals (conv => whnf)
            refine And.intro (fitsI (by simp; omega)) ?_
            repeat' ((conv => whnf); first | refine And.intro (fun h => h) ?_ | refine dcond_t (by assumption) ?_ | refine dcond_f (by assumption) ?_ | (refine dcond_intro ?_ ?_ <;> intro h) | exact .refl | refine And.intro (by kernel_rfl) ?_ | refine And.intro ⟨fun h => h, fun h => h⟩ ?_ | (refine And.intro ?_ ?_; focus (simp; done)) | fail)
            all_goals (conv => whnf)
            refine ⟨i + 1, hlt, by simp only []; omega, ?_⟩
            conv => whnf
            refine ⟨⟨.refl, .refl, dle_lst ?_, dle_int (wrap_succ (by omega)), trivial⟩, trivial, rfl⟩
            rw [hsn, insP, hat]
            simp [intE, dcells]
            try kernel_rfl
      · have hge : ¬ i < ms.length := by simpa using h
        have : i = ms.length := by omega
        subst this
        conv => whnf
        exact .refl
end Go.Proofs.Ytpipaadjokdgoaa

set_option linter.unusedSimpArgs false
set_option linter.unusedVariables false
set_option maxRecDepth 100000
namespace Go.Proofs.Ytpipaadjokdgoaa
open Go.Lift
theorem order_lt {ms : List Int} {r : Int} (hv : idsB ms 16 = true) (h1 : 0 ≤ r) (h2 : r < 5) : (orderR ms r).Pairwise fun a b => posR r a < posR r b := by
  rw [order_in hv h1 h2]
  have hb := (ids_pw.1 hv).2.2
  have hn : (sortL (cmpPos r) ms).Nodup := (sortL_perm _ _).nodup_iff.2 (pw_nodup (ids_pw.1 hv).2.1)
  have hs := sortL_sorted (pos_swo r) ms
  refine (List.pairwise_iff_getElem.2 fun i j hi hj hij => ?_)
  have h3 := List.pairwise_iff_getElem.1 hs i j hi hj hij
  rw [ltPos, decide_eq_false_iff_not] at h3
  have hne : (sortL (cmpPos r) ms)[i] ≠ (sortL (cmpPos r) ms)[j] := (List.pairwise_iff_getElem.1 hn) i j hi hj hij
  have ha := hb _ (sortL_mem.1 (List.getElem_mem hi))
  have hb' := hb _ (sortL_mem.1 (List.getElem_mem hj))
  rcases Int.lt_or_eq_of_le (Int.not_lt.1 h3) with h | h
  · exact h
  · exact absurd (posR_inj ha hb' h) hne
def ahd (r : Int) (O : List Int) (x : Int) : Nat → Int
  | 0 => O.getD (O.length - 1) 0
  | i + 1 => if posR r (O.getD i 0) < posR r x then O.getD i 0 else ahd r O x i
theorem ahd_at {r : Int} {O : List Int} (hp : O.Pairwise fun a b => posR r a < posR r b) {k : Nat} (hk : k < O.length) : ∀ i, i ≤ O.length → ahd r O O[k] i = O.getD (if i = 0 ∨ k = 0 then O.length - 1 else min i k - 1) 0
  | 0, _ => by simp [ahd]
  | i + 1, hi => by
    have ih := ahd_at hp hk i (by omega)
    have hil : i < O.length := by omega
    have hg : O.getD i 0 = O[i] := by simp [hil]
    have hlt : posR r O[i] < posR r O[k] ↔ i < k := by
      constructor
      · intro h
        rcases Nat.lt_or_ge i k with h2 | h2
        · exact h2
        · rcases Nat.lt_or_eq_of_le h2 with h2 | h2
          · have := List.pairwise_iff_getElem.1 hp k i hk hil h2
            omega
          · subst h2
            omega
      · intro h
        exact List.pairwise_iff_getElem.1 hp i k hil hk h
    unfold ahd
    rw [hg, ih]
    by_cases h : i < k
    · rw [if_pos (hlt.2 h), if_neg (by omega)]
      have : min (i + 1) k - 1 = i := by omega
      rw [this, hg]
    · rw [if_neg (fun h' => h (hlt.1 h'))]
      congr 1
      by_cases hk0 : k = 0
      · rw [if_pos (.inr hk0), if_pos (.inr hk0)]
      · rw [if_neg (by omega), if_neg (by omega)]
        omega
def prvR (ms : List Int) (x : Int) (r : Nat) : Int := ahd r (orderR ms r) x (orderR ms r).length
theorem place_val {l : List Int} {x : Int} (h : x ∈ l) : ∃ (k : Nat) (hk : k < l.length), placeB l x = k ∧ l[k] = x := by
  rcases hf : (List.range l.length).find? (fun i => decide (l[i]? = some x)) with _ | n
  · obtain ⟨i, hi, rfl⟩ := List.getElem_of_mem h
    have := List.find?_eq_none.1 hf i (List.mem_range.2 hi)
    simp [hi] at this
  · have h1 := List.mem_range.1 (List.mem_of_find?_eq_some hf)
    refine ⟨n, h1, by simp only [placeB, findB, hf], ?_⟩
    have h2 : decide (l[n]? = some x) = true := List.find?_some (p := fun i => decide (l[i]? = some x)) hf
    have h2 := of_decide_eq_true h2
    rw [List.getElem?_eq_getElem h1] at h2
    exact Option.some.inj h2
theorem prv_nxt {ms : List Int} {a b : Int} {r : Nat} (hv : idsB ms 16 = true) (hr : r < 5) (ha : a ∈ ms) (hb : b ∈ ms) (hab : a ≠ b) : prvR ms b r = a ↔ nxtR (orderR ms r) a = b := by
  have hO := order_lt (r := (r : Nat)) hv (by omega) (by omega)
  have ho := order_in (ms := ms) (r := (r : Nat)) hv (by omega) (by omega)
  have hnd : (orderR ms r).Nodup := by
    rw [ho]
    exact (sortL_perm _ _).nodup_iff.2 (pw_nodup (ids_pw.1 hv).2.1)
  have hma : a ∈ orderR ms r := by rw [ho, sortL_mem]; exact ha
  have hmb : b ∈ orderR ms r := by rw [ho, sortL_mem]; exact hb
  unfold prvR nxtR
  generalize orderR ms r = O at hO hnd hma hmb
  obtain ⟨k, hkl, hk, hka⟩ := place_val hma
  obtain ⟨j, hj, rfl⟩ := List.getElem_of_mem hmb
  rw [ahd_at hO hj _ (Nat.le_refl _), hk, Int.toNat_natCast]
  have hmod : (k + 1) % O.length < O.length := Nat.mod_lt _ (by omega)
  have hg2 : O.getD ((k + 1) % O.length) 0 = O[(k + 1) % O.length] := by simp [hmod]
  have hkj : k ≠ j := fun e => hab (by subst e; exact hka.symm)
  rw [hg2]
  have hinj : ∀ (p q : Nat) (hp : p < O.length) (hq : q < O.length), O[p] = O[q] ↔ p = q := fun p q hp hq => by
    constructor
    · intro h
      exact (List.getElem_inj hnd).1 h
    · intro h
      subst h
      rfl
  rw [hinj _ _ hmod hj]
  have hm2 : (k + 1) % O.length = if k + 1 = O.length then 0 else k + 1 := by
    split
    · rename_i h
      rw [h, Nat.mod_self]
    · exact Nat.mod_eq_of_lt (by omega)
  rw [hm2]
  have hP : (if O.length = 0 ∨ j = 0 then O.length - 1 else min O.length j - 1) < O.length := by split <;> omega
  have hg3 : O.getD (if O.length = 0 ∨ j = 0 then O.length - 1 else min O.length j - 1) 0 = O[if O.length = 0 ∨ j = 0 then O.length - 1 else min O.length j - 1]'hP := by
    rw [List.getD_eq_getElem?_getD, List.getElem?_eq_getElem hP, Option.getD_some]
  rw [hg3, ← hka, hinj _ _ hP hkl]
  split <;> split <;> omega
theorem ahd_ex (r : Int) (O : List Int) (x : Int) : ∃ A : Nat → Int, A 0 = O.getD (O.length - 1) 0 ∧ (∀ i, A (i + 1) = if posR r (O.getD i 0) < posR r x then O.getD i 0 else A i) ∧ ahd r O x O.length = A O.length :=
  ⟨ahd r O x, by rw [ahd], fun i => by rw [ahd], by simp only []⟩
theorem w_ref4_Ahead (ms O : List Int) (A : Nat → Int) (P : Int → Int) (r : Nat) (x : Int) (h16 : 1 ≤ O.length ∧ O.length ≤ 16) (eo : Ret Try.prog 60 [.lst 1 (ms.map intE) false, i64 r] (.lst 1 (O.map intE) false))
    (h0 : A 0 = O.getD (O.length - 1) 0) (hs : ∀ i, A (i + 1) = if P (O.getD i 0) < P x then O.getD i 0 else A i) (ep : ∀ m, Ret Try.prog 61 [i64 r, i64 m] (u64 (P m))) : Ret Try.prog 42 [.lst 1 (ms.map intE) false, i64 r, i64 x] (i64 (A O.length)) := by
  have hix : IntKind.i64.wrap (((O.map intE).length : Int) - 1) = ((O.length - 1 : Nat) : Int) := by
    rw [List.length_map, wrap_i64 (by omega) (by omega)]
    omega
  have hgx : (O.map intE)[O.length - 1]? = some (intE (A 0)) := by
    have : O.length - 1 < O.length := by omega
    rw [h0]
    simp [this]
  refine ret_of_body (fn := Try.f42) (c := Try.f42.body.getD .skip) hm hT (by kernel_rfl) Try.func42 (by kernel_rfl) (by kernel_rfl) (by kernel_rfl) (by kernel_rfl) ?_
  repeat' ((conv => whnf); first | refine And.intro (fun h => h) ?_ | refine dcond_t (by assumption) ?_ | refine dcond_f (by assumption) ?_ | (refine dcond_intro ?_ ?_ <;> intro h) | exact .refl | refine And.intro (by kernel_rfl) ?_ | refine And.intro ⟨fun h => h, fun h => h⟩ ?_ | refine .inl ⟨_, _, DleAll_refl _, eo, ?_⟩ | refine ⟨_, _, DleAll_refl _, fun _ => eo, ?_⟩ | refine ⟨_, _, DleAll_refl _, eo, ?_⟩ | refine ⟨O.length - 1, intE (A 0), And.intro ⟨hix, hgx⟩ ?_⟩ | (refine And.intro ?_ ?_; focus (simp; done)) | fail)
  all_goals (conv => whnf)
  refine ⟨Nat, fun i => ⟨[(1, i64 r), (2, i64 x), (7, .lst 1 (O.map intE) false), (8, i64 (A i)), (9, i64 i)], []⟩, fun i => i ≤ O.length, fun i => O.length - i, [], ⟨0, Nat.zero_le _, ?_⟩, ?_⟩
  · exact ⟨by repeat' ((conv => whnf); first | exact trivial | refine And.intro (by (conv => arg 1; whnf); first | (with_reducible exact .refl) | exact dle_int (wrap_succ (by omega)) | exact .refl) ?_), by repeat' ((conv => whnf); first | exact trivial | refine And.intro ?_ ?_ | exact .refl), rfl⟩
  · intro i hi
    repeat' ((conv => whnf); first | refine And.intro (fun h => h) ?_ | refine dcond_t (by assumption) ?_ | refine dcond_f (by assumption) ?_ | (refine dcond_intro ?_ ?_ <;> intro h) | exact .refl | refine And.intro (by kernel_rfl) ?_ | refine And.intro ⟨fun h => h, fun h => h⟩ ?_ | (refine And.intro ?_ ?_; focus (simp; done)) | fail)
    · have hlt : i < O.length := by simpa using h
      clear h
      have hg : O.getD i 0 = O[i] := by simp [hlt]
      have hs := hs i
      rw [hg] at hs
      have ep1 := ep O[i]
      have ep2 := ep x
      repeat' ((conv => whnf); first | refine And.intro (fun h => h) ?_ | refine dcond_t (by assumption) ?_ | refine dcond_f (by assumption) ?_ | (refine dcond_intro ?_ ?_ <;> intro h) | exact .refl | refine And.intro (by kernel_rfl) ?_ | refine And.intro ⟨fun h => h, fun h => h⟩ ?_ | refine ⟨_, _, And.intro ⟨rfl, get_map hlt⟩ ?_⟩ | refine .inl ⟨_, _, DleAll_refl _, ep1, ?_⟩ | refine ⟨_, _, DleAll_refl _, fun _ => ep1, ?_⟩ | refine ⟨_, _, DleAll_refl _, ep1, ?_⟩ | refine .inl ⟨_, _, DleAll_refl _, ep2, ?_⟩ | refine ⟨_, _, DleAll_refl _, fun _ => ep2, ?_⟩ | refine ⟨_, _, DleAll_refl _, ep2, ?_⟩ | (refine And.intro ?_ ?_; focus (simp; done)) | fail)
      all_goals (conv => whnf)
      all_goals refine ⟨i + 1, hlt, by simp only []; omega, ?_⟩
      all_goals (conv => whnf)
      all_goals refine ⟨⟨.refl, .refl, .refl, dle_int ?_, dle_int (wrap_succ (by omega)), trivial⟩, trivial, by rfl⟩
      · rw [hs, if_pos (of_decide_eq_true h)]
      · rw [hs, if_neg (of_decide_eq_false h)]
    · have : i = O.length := by
        simp at h
        omega
      subst this
      repeat' ((conv => whnf); first | refine And.intro (fun h => h) ?_ | refine dcond_t (by assumption) ?_ | refine dcond_f (by assumption) ?_ | (refine dcond_intro ?_ ?_ <;> intro h) | exact .refl | refine And.intro (by kernel_rfl) ?_ | refine And.intro ⟨fun h => h, fun h => h⟩ ?_ | (refine And.intro ?_ ?_; focus (simp; done)) | fail)
theorem c_ref4_Ahead (ms : List Int) (hl : ms.length ≤ maxLen) (hv : idsB ms 16 = true) (r : Nat) (hr : r < 5) (x : Int) : Ret Try.prog 42 [.lst 1 (ms.map intE) false, i64 r, i64 x] (i64 (prvR ms x r)) := by
  have ho := order_in (ms := ms) (r := (r : Nat)) hv (by omega) (by omega)
  have hol : (orderR ms (r : Nat)).length = ms.length := by rw [ho, sortL_len]
  have h16 := (ids_pw.1 hv).1
  obtain ⟨A, h0, hs, he⟩ := ahd_ex r (orderR ms r) x
  have hp : prvR ms x r = A (orderR ms r).length := he
  rw [hp]
  exact w_ref4_Ahead ms _ A (posR r) r x (by omega) (c_ref4_Order ms hl (r : Nat)) h0 hs fun m => c_ref2_Position r m
def obsR (ms : List Int) (x : Int) : List Int := bif !idsB ms 16 || !(decide (1 ≤ x) && decide (x ≤ 1000)) || (decide ((ms.length : Int) = 1) && decide (ms.getD 0 0 = x)) then [] else (List.range 5).map (prvR ms x)
theorem c_ref4_Observers (ms : List Int) (hl : ms.length ≤ maxLen) (x : Int) : Ret Try.prog 22 [.lst 1 (ms.map intE) false, i64 x] (.lst 1 ((obsR ms x).map intE) false) := by
  have e1 := c_ref3_ValidMembers ms hl
  have e2 := c_ref3_IsID x
  have ea : idsB ms 16 = true → ∀ r : Nat, r < 5 → Ret Try.prog 42 [.lst 1 (ms.map intE) false, i64 r, i64 x] (i64 (prvR ms x r)) := fun hv r hr => c_ref4_Ahead ms hl hv r hr x
  have ho : obsR ms x = bif !idsB ms 16 || !(decide (1 ≤ x) && decide (x ≤ 1000)) || (decide ((ms.length : Int) = 1) && decide (ms.getD 0 0 = x)) then [] else (List.range 5).map (prvR ms x) := rfl
  have hg : ∀ c : Bool, (c && decide (((ms.map intE).length : Int) = 1)) = true → (ms.map intE)[0]? = some (intE (ms.getD 0 0)) := fun c h => by
    simp only [Bool.and_eq_true, decide_eq_true_eq, List.length_map] at h
    have : 0 < ms.length := by omega
    simp [this]
  generalize prvR ms x = A at ea ho
  generalize obsR ms x = R at ho ⊢
  generalize idsB ms 16 = b1 at *
  generalize (decide (1 ≤ x) && decide (x ≤ 1000)) = b2 at *
  refine ret_of_body (fn := Try.f22) (c := Try.f22.body.getD .skip) hm hT (by kernel_rfl) Try.func22 (by kernel_rfl) (by kernel_rfl) (by kernel_rfl) (by kernel_rfl) ?_
  repeat' ((conv => whnf); first | refine And.intro (fun h => h) ?_ | refine dcond_t (by assumption) ?_ | refine dcond_f (by assumption) ?_ | (refine dcond_intro ?_ ?_ <;> intro h) | exact .refl | refine And.intro (by kernel_rfl) ?_ | refine And.intro ⟨fun h => h, fun h => h⟩ ?_ | refine .inl ⟨_, _, DleAll_refl _, e1, ?_⟩ | refine ⟨_, _, DleAll_refl _, fun _ => e1, ?_⟩ | refine ⟨_, _, DleAll_refl _, e1, ?_⟩ | refine .inl ⟨_, _, DleAll_refl _, e2, ?_⟩ | refine ⟨_, _, DleAll_refl _, fun _ => e2, ?_⟩ | refine ⟨_, _, DleAll_refl _, e2, ?_⟩ | refine ⟨0, intE (ms.getD 0 0), And.intro ⟨fun h => h, fun h => ⟨rfl, hg _ h⟩⟩ ?_⟩ | (refine And.intro ?_ ?_; focus (simp; done)) | fail)
  all_goals (conv => whnf)
  · rw [List.length_map] at h
    rw [ho, h]
    exact .nl
  · rw [List.length_map] at h
    rw [h, cond_false] at ho
    have hb : b1 = true := by
      simp only [Bool.or_eq_false_iff, Bool.not_eq_false'] at h
      exact h.1.1
    have ea := ea hb
    clear h hg
    subst ho
    refine ⟨Nat, fun i => ⟨[(0, .lst 1 (ms.map intE) false), (1, i64 x), (5, .own 0), (6, i64 i)], [.row 3 1 (((List.range i).map A).map intE)]⟩, fun i => i ≤ 5, fun i => 5 - i, [.slot 5 3 1], ⟨0, Nat.zero_le _, ?_⟩, ?_⟩
    · exact ⟨by repeat' ((conv => whnf); first | exact trivial | refine And.intro (by (conv => arg 1; whnf); first | (with_reducible exact .refl) | exact dle_int (wrap_succ (by omega)) | exact .refl) ?_), by repeat' ((conv => whnf); first | exact trivial | refine And.intro ?_ ?_ | exact .refl), rfl⟩
    · intro i hi
      repeat' ((conv => whnf); first | refine And.intro (fun h => h) ?_ | refine dcond_t (by assumption) ?_ | refine dcond_f (by assumption) ?_ | (refine dcond_intro ?_ ?_ <;> intro h) | exact .refl | refine And.intro (by kernel_rfl) ?_ | refine And.intro ⟨fun h => h, fun h => h⟩ ?_ | (refine And.intro ?_ ?_; focus (simp; done)) | fail)
      · have hlt : i < 5 := by
          simp at h
          omega
        clear h
        have e := ea i hlt
        have hfi : (((List.range i).map A).map intE).length + 1 ≤ 2000000 := by
          simp
          omega
        repeat' ((conv => whnf); first | refine And.intro (fun h => h) ?_ | refine dcond_t (by assumption) ?_ | refine dcond_f (by assumption) ?_ | (refine dcond_intro ?_ ?_ <;> intro h) | exact .refl | refine And.intro (by kernel_rfl) ?_ | refine And.intro ⟨fun h => h, fun h => h⟩ ?_ | refine .inl ⟨_, _, DleAll_refl _, e, ?_⟩ | refine ⟨_, _, DleAll_refl _, fun _ => e, ?_⟩ | refine ⟨_, _, DleAll_refl _, e, ?_⟩ | refine And.intro (fitsI hfi) ?_ | (refine And.intro ?_ ?_; focus (simp; done)) | fail)
        all_goals (conv => whnf)
        refine ⟨i + 1, hlt, by simp only []; omega, ?_⟩
        conv => whnf
        refine ⟨⟨.refl, .refl, .refl, dle_int (wrap_succ (by omega)), trivial⟩, ⟨ole_row ?_, trivial⟩, by rfl⟩
        rw [List.range_succ, List.map_append, List.map_append]
        rfl
      · have : i = 5 := by
          simp at h
          omega
        subst this
        repeat' ((conv => whnf); first | refine And.intro (fun h => h) ?_ | refine dcond_t (by assumption) ?_ | refine dcond_f (by assumption) ?_ | (refine dcond_intro ?_ ?_ <;> intro h) | exact .refl | refine And.intro (by kernel_rfl) ?_ | refine And.intro ⟨fun h => h, fun h => h⟩ ?_ | (refine And.intro ?_ ?_; focus (simp; done)) | fail)
def shrAt (R : List Int) (a : Int) (i : Nat) : List Int := ((List.range i).filter fun k => decide (R.getD k 0 = a)).map fun (k : Nat) => (k : Int)
theorem shr_succ (R : List Int) (a : Int) (i : Nat) : shrAt R a (i + 1) = shrAt R a i ++ bif decide (R.getD i 0 = a) then [(i : Int)] else [] := by
  unfold shrAt
  rw [List.range_succ, List.filter_append, List.map_append, List.filter_cons, List.filter_nil]
  cases h : decide (R.getD i 0 = a) <;> simp
theorem shr_len (R : List Int) (a : Int) (i : Nat) : (shrAt R a i).length ≤ i := by
  unfold shrAt
  rw [List.length_map]
  exact Nat.le_trans (List.length_filter_le ..) (by simp)
theorem obs_len (ms : List Int) (x : Int) : (obsR ms x).length ≤ 5 := by
  unfold obsR
  cases (!idsB ms 16 || !(decide (1 ≤ x) && decide (x ≤ 1000)) || (decide ((ms.length : Int) = 1) && decide (ms.getD 0 0 = x))) <;> simp
end Go.Proofs.Ytpipaadjokdgoaa

set_option linter.unusedSimpArgs false
set_option linter.unusedVariables false
set_option maxRecDepth 100000
namespace Go.Proofs.Ytpipaadjokdgoaa
open Go.Lift
/-! overlay.Observers: the least distance -/
def dstR (r x m : Int) : Int := IntKind.u64.wrap (IntKind.u64.wrap (posR r x - posR r m) - 1)
def minAt (cf : Int → Int → Int) (l : List Int) : Nat → Int
  | 0 => l.getD 0 0
  | i + 1 => if cf (l.getD i 0) (minAt cf l i) < 0 then l.getD i 0 else minAt cf l i
theorem min_one (cf : Int → Int → Int) (l : List Int) : minAt cf l 1 = l.getD 0 0 := by
  rw [minAt, minAt]
  split <;> rfl
theorem c_overlay_identifier (x : Int) : Ret Try.prog 66 [i64 x] (.v (.bool (decide (1 ≤ x) && decide (x ≤ 1000)))) := by
  refine ret_of_body (fn := Try.f66) (c := Try.f66.body.getD .skip) hm hT (by kernel_rfl) Try.func66 (by kernel_rfl) (by kernel_rfl) (by kernel_rfl) (by kernel_rfl) ?_
  repeat' ((conv => whnf); first | refine And.intro (fun h => h) ?_ | refine dcond_t (by assumption) ?_ | refine dcond_f (by assumption) ?_ | (refine dcond_intro ?_ ?_ <;> intro h) | exact .refl | refine And.intro (by kernel_rfl) ?_ | refine And.intro ⟨fun h => h, fun h => h⟩ ?_ | (refine And.intro ?_ ?_; focus (simp; done)) | fail)
theorem c_overlay_Observers_1 (r x a b : Int) : Ret Try.prog 69 [i64 a, i64 b, .ip [u64 (posR r x)], .ip [i64 r]] (i64 (cmpI (dstR r x a) (dstR r x b))) := by
  have e1 := c_Position r a
  have e2 := c_Position r b
  have e3 := c_Compare_u64 (dstR r x a) (dstR r x b)
  unfold dstR at e3 ⊢
  generalize posR r a = p1 at *
  generalize posR r b = p2 at *
  generalize posR r x = p0 at *
  refine ret_of_body (fn := Try.f69) (c := Try.f69.body.getD .skip) hm hT (by kernel_rfl) Try.func69 (by kernel_rfl) (by kernel_rfl) (by kernel_rfl) (by kernel_rfl) ?_
  repeat' ((conv => whnf); first | refine And.intro (fun h => h) ?_ | refine dcond_t (by assumption) ?_ | refine dcond_f (by assumption) ?_ | (refine dcond_intro ?_ ?_ <;> intro h) | exact .refl | refine And.intro (by kernel_rfl) ?_ | refine And.intro ⟨fun h => h, fun h => h⟩ ?_ | refine .inl ⟨_, _, DleAll_refl _, e1, ?_⟩ | refine ⟨_, _, DleAll_refl _, fun _ => e1, ?_⟩ | refine ⟨_, _, DleAll_refl _, e1, ?_⟩ | refine .inl ⟨_, _, DleAll_refl _, e2, ?_⟩ | refine ⟨_, _, DleAll_refl _, fun _ => e2, ?_⟩ | refine ⟨_, _, DleAll_refl _, e2, ?_⟩ | refine .inl ⟨_, _, DleAll_refl _, e3, ?_⟩ | refine ⟨_, _, DleAll_refl _, fun _ => e3, ?_⟩ | refine ⟨_, _, DleAll_refl _, e3, ?_⟩ | (refine And.intro ?_ ?_; focus (simp; done)) | fail)
theorem w_MinFunc (l : List Int) (hl1 : 1 ≤ l.length) (hl : l.length ≤ maxLen) (caps : List DV) (cf : Int → Int → Int) (A : Nat → Int) (h1 : A 1 = l.getD 0 0) (hs : ∀ i, A (i + 1) = if cf (l.getD i 0) (A i) < 0 then l.getD i 0 else A i)
    (p q : DV) (hc : ∀ a b, Ret Try.prog 69 [i64 a, i64 b, p, q] (i64 (cf a b))) (hp : ∃ a, p = .ip [u64 a]) (hq : ∃ a, q = .ip [i64 a]) : Ret Try.prog 68 [.lst 1 (l.map intE) false, .fn (.func 69) [p, q]] (i64 (A l.length)) := by
  have hl' : l.length ≤ 9223372036854775807 := hl
  obtain ⟨pa, rfl⟩ := hp
  obtain ⟨qa, rfl⟩ := hq
  refine ret_of_body (fn := Try.f68) (c := Try.f68.body.getD .skip) hm hT (by kernel_rfl) Try.func68 (by kernel_rfl) (by kernel_rfl) (by kernel_rfl) (by kernel_rfl) ?_
  repeat' ((conv => whnf); first | refine And.intro (fun h => h) ?_ | refine dcond_t (by assumption) ?_ | refine dcond_f (by assumption) ?_ | (refine dcond_intro ?_ ?_ <;> intro h) | exact .refl | refine And.intro (by kernel_rfl) ?_ | refine And.intro ⟨fun h => h, fun h => h⟩ ?_ | (refine And.intro ?_ ?_; focus (simp; done)) | fail)
  · exfalso
    simp at h
    omega
  · clear h
    have hg0 : (l.map intE)[0]? = some (intE (A 1)) := by
      rw [h1]
      have : 0 < l.length := by omega
      simp [this]
    repeat' ((conv => whnf); first | refine And.intro (fun h => h) ?_ | refine dcond_t (by assumption) ?_ | refine dcond_f (by assumption) ?_ | (refine dcond_intro ?_ ?_ <;> intro h) | exact .refl | refine And.intro (by kernel_rfl) ?_ | refine And.intro ⟨fun h => h, fun h => h⟩ ?_ | refine ⟨0, intE (A 1), And.intro ⟨rfl, hg0⟩ ?_⟩ | (refine And.intro ?_ ?_; focus (simp; done)) | fail)
    all_goals (conv => whnf)
    refine ⟨Nat, fun i => ⟨[(0, .lst 1 (l.map intE) false), (1, .fn (.func 69) [.ip [u64 pa], .ip [i64 qa]]), (5, i64 (A i)), (6, i64 i)], []⟩, fun i => 1 ≤ i ∧ i ≤ l.length, fun i => l.length - i, [], ⟨1, ⟨Nat.le_refl _, hl1⟩, ?_⟩, ?_⟩
    · conv => whnf
      exact ⟨⟨.refl, .refl, .refl, .refl, trivial⟩, trivial, by rfl⟩
    · intro i ⟨hi1, hi⟩
      repeat' ((conv => whnf); first | refine And.intro (fun h => h) ?_ | refine dcond_t (by assumption) ?_ | refine dcond_f (by assumption) ?_ | (refine dcond_intro ?_ ?_ <;> intro h) | exact .refl | refine And.intro (by kernel_rfl) ?_ | refine And.intro ⟨fun h => h, fun h => h⟩ ?_ | (refine And.intro ?_ ?_; focus (simp; done)) | fail)
      · have hlt : i < l.length := by simpa using h
        clear h
        have hg : l.getD i 0 = l[i] := by simp [hlt]
        have hs := hs i
        rw [hg] at hs
        have e := hc l[i] (A i)
        repeat' ((conv => whnf); first | refine And.intro (fun h => h) ?_ | refine dcond_t (by assumption) ?_ | refine dcond_f (by assumption) ?_ | (refine dcond_intro ?_ ?_ <;> intro h) | exact .refl | refine And.intro (by kernel_rfl) ?_ | refine And.intro ⟨fun h => h, fun h => h⟩ ?_ | refine ⟨_, _, And.intro ⟨rfl, get_map hlt⟩ ?_⟩ | refine .inl ⟨_, _, DleAll_refl _, e, ?_⟩ | refine ⟨_, _, DleAll_refl _, fun _ => e, ?_⟩ | refine ⟨_, _, DleAll_refl _, e, ?_⟩ | (refine And.intro ?_ ?_; focus (simp; done)) | fail)
        all_goals (conv => whnf)
        all_goals refine ⟨i + 1, ⟨by omega, hlt⟩, by simp only []; omega, ?_⟩
        all_goals (conv => whnf)
        all_goals refine ⟨⟨.refl, .refl, dle_int ?_, dle_int (wrap_succ (by omega)), trivial⟩, trivial, by rfl⟩
        · rw [hs, if_pos (of_decide_eq_true h)]
        · rw [hs, if_neg (of_decide_eq_false h)]
      · have : i = l.length := by
          simp at h
          omega
        subst this
        clear h
        repeat' ((conv => whnf); first | refine And.intro (fun h => h) ?_ | refine dcond_t (by assumption) ?_ | refine dcond_f (by assumption) ?_ | (refine dcond_intro ?_ ?_ <;> intro h) | exact .refl | refine And.intro (by kernel_rfl) ?_ | refine And.intro ⟨fun h => h, fun h => h⟩ ?_ | (refine And.intro ?_ ?_; focus (simp; done)) | fail)
end Go.Proofs.Ytpipaadjokdgoaa

set_option linter.unusedSimpArgs false
set_option linter.unusedVariables false
set_option maxRecDepth 100000
namespace Go.Proofs.Ytpipaadjokdgoaa
open Go.Lift
theorem dst_lt {r x m : Int} (h : posR r m < posR r x) : dstR r x m = posR r x - posR r m - 1 := by
  have h1 := posR_rng r m
  have h2 := posR_rng r x
  unfold dstR
  generalize posR r m = p at *
  generalize posR r x = q at *
  rw [u64_id (n := q - p) (by omega) (by omega), u64_id (by omega) (by omega)]
theorem dst_ge {r x m : Int} (h : ¬ posR r m < posR r x) : dstR r x m = posR r x - posR r m - 1 + 18446744073709551616 := by
  have h1 := posR_rng r m
  have h2 := posR_rng r x
  unfold dstR
  generalize posR r m = p at *
  generalize posR r x = q at *
  rw [wrap_u64, wrap_u64]
  omega
theorem min_mem {cf : Int → Int → Int} {l : List Int} (hl : 1 ≤ l.length) : ∀ i, i ≤ l.length → minAt cf l i ∈ l
  | 0, _ => by
    rw [minAt]
    have : 0 < l.length := by omega
    simp [this]
  | i + 1, hi => by
    have ih := min_mem (cf := cf) hl i (by omega)
    rw [minAt]
    split
    · have : i < l.length := by omega
      simp [this]
    · exact ih
theorem min_le {d : Int → Int} {l : List Int} : ∀ i, i ≤ l.length → ∀ j, j < i → d (minAt (fun a b => cmpI (d a) (d b)) l i) ≤ d (l.getD j 0)
  | 0, _, j, hj => by omega
  | i + 1, hi, j, hj => by
    have ih := min_le (d := d) (l := l) i (by omega)
    rw [minAt]
    have hc := (cmp_iff (d (l.getD i 0)) (d (minAt (fun a b => cmpI (d a) (d b)) l i))).1
    split
    · rename_i h
      have h := hc.1 h
      rcases Nat.lt_succ_iff_lt_or_eq.1 hj with hj | rfl
      · have := ih j hj
        omega
      · exact Int.le_refl _
    · rename_i h
      have h := fun h2 => h (hc.2 h2)
      rcases Nat.lt_succ_iff_lt_or_eq.1 hj with hj | rfl
      · exact ih j hj
      · omega
theorem ahd_min {r x : Int} {O : List Int} (hp : O.Pairwise fun a b => posR r a < posR r b) (hO : 1 ≤ O.length) : ∀ i, i ≤ O.length → ahd r O x i ∈ O ∧ (ahd r O x i = O.getD (O.length - 1) 0 ∨ posR r (ahd r O x i) < posR r x) ∧ ∀ j, j < i → dstR r x (ahd r O x i) ≤ dstR r x (O.getD j 0)
  | 0, _ => by
    rw [ahd]
    have : O.length - 1 < O.length := by omega
    exact ⟨by simp [this], .inl rfl, fun j hj => by omega⟩
  | i + 1, hi => by
    obtain ⟨h1, h2, h3⟩ := ahd_min (x := x) hp hO i (by omega)
    have hil : i < O.length := by omega
    have hg : O.getD i 0 = O[i] := by simp [hil]
    have hlt : ∀ a b (ha : a < O.length) (hb : b < O.length), a ≤ b → posR r O[a] ≤ posR r O[b] := by
      intro a b ha hb hab
      rcases Nat.lt_or_eq_of_le hab with h | h
      · exact Int.le_of_lt (List.pairwise_iff_getElem.1 hp a b ha hb h)
      · subst h
        exact Int.le_refl _
    rw [ahd]
    split
    · rename_i h
      refine ⟨by rw [hg]; exact List.getElem_mem _, .inr h, fun j hj => ?_⟩
      have hjl : j < O.length := by omega
      have hgj : O.getD j 0 = O[j] := by simp [hjl]
      have := hlt j i hjl hil (by omega)
      rw [hg] at h ⊢
      rw [hgj, dst_lt h, dst_lt (by omega)]
      omega
    · rename_i h
      refine ⟨h1, h2, fun j hj => ?_⟩
      rcases Nat.lt_succ_iff_lt_or_eq.1 hj with hj | rfl
      · exact h3 j hj
      · rcases h2 with h2 | h2
        · have hl : O.length - 1 < O.length := by omega
          have hgl : O.getD (O.length - 1) 0 = O[O.length - 1] := by simp [hl]
          have := hlt j (O.length - 1) hil hl (by omega)
          rw [h2, hgl]
          rw [hg] at h ⊢
          rw [dst_ge h, dst_ge (by omega)]
          omega
        · have r1 := posR_rng r (ahd r O x j)
          have r2 := posR_rng r (O.getD j 0)
          rw [dst_lt h2, dst_ge h]
          omega
theorem dst_inj {r x a b : Int} (ha : 1 ≤ a ∧ a ≤ 1000) (hb : 1 ≤ b ∧ b ≤ 1000) (h : dstR r x a = dstR r x b) : a = b := by
  refine posR_inj (r := r) ha hb ?_
  have r1 := posR_rng r a
  have r2 := posR_rng r b
  by_cases h1 : posR r a < posR r x <;> by_cases h2 : posR r b < posR r x
  · rw [dst_lt h1, dst_lt h2] at h
    omega
  · rw [dst_lt h1, dst_ge h2] at h
    omega
  · rw [dst_ge h1, dst_lt h2] at h
    omega
  · rw [dst_ge h1, dst_ge h2] at h
    omega
theorem min_prv {ms : List Int} {x : Int} {r : Nat} (hv : idsB ms 16 = true) (hr : r < 5) : minAt (fun a b => cmpI (dstR r x a) (dstR r x b)) ms ms.length = prvR ms x r := by
  have hO := order_lt (r := (r : Nat)) hv (by omega) (by omega)
  have ho := order_in (ms := ms) (r := (r : Nat)) hv (by omega) (by omega)
  have hol : (orderR ms (r : Nat)).length = ms.length := by rw [ho, sortL_len]
  have h16 := (ids_pw.1 hv).1
  have hb := (ids_pw.1 hv).2.2
  have hmem : ∀ m, m ∈ orderR ms (r : Nat) ↔ m ∈ ms := fun m => by rw [ho, sortL_mem]
  unfold prvR
  generalize orderR ms (r : Nat) = O at *
  obtain ⟨a1, _, a3⟩ := ahd_min (x := x) hO (by omega) O.length (Nat.le_refl _)
  have b1 := min_mem (cf := fun a b => cmpI (dstR r x a) (dstR r x b)) (l := ms) (by omega) ms.length (Nat.le_refl _)
  have b2 := min_le (d := dstR r x) (l := ms) ms.length (Nat.le_refl _)
  refine dst_inj (r := r) (x := x) (hb _ b1) (hb _ ((hmem _).1 a1)) ?_
  obtain ⟨j, hj, hje⟩ := List.getElem_of_mem ((hmem _).1 a1)
  obtain ⟨k, hk, hke⟩ := List.getElem_of_mem ((hmem _).2 b1)
  have c1 := b2 j hj
  have c2 := a3 k hk
  have g1 : ms.getD j 0 = ms[j] := by simp [hj]
  have g2 : O.getD k 0 = O[k] := by simp [hk]
  rw [g1, hje] at c1
  rw [g2, hke] at c2
  exact Int.le_antisymm c1 c2
theorem min_ex (r x : Int) (l : List Int) : ∃ A : Nat → Int, A 1 = l.getD 0 0 ∧ (∀ i, A (i + 1) = if cmpI (dstR r x (l.getD i 0)) (dstR r x (A i)) < 0 then l.getD i 0 else A i) ∧ minAt (fun a b => cmpI (dstR r x a) (dstR r x b)) l l.length = A l.length :=
  ⟨minAt (fun a b => cmpI (dstR r x a) (dstR r x b)) l, min_one _ _, fun i => by rw [minAt], rfl⟩
theorem c_MinFunc (ms : List Int) (hv : idsB ms 16 = true) (r : Nat) (hr : r < 5) (x : Int) : Ret Try.prog 68 [.lst 1 (ms.map intE) false, .fn (.func 69) [.ip [u64 (posR r x)], .ip [i64 r]]] (i64 (prvR ms x r)) := by
  have h16 := (ids_pw.1 hv).1
  obtain ⟨A, h1, hs, he⟩ := min_ex r x ms
  have hp := min_prv (x := x) hv hr
  rw [he] at hp
  rw [← hp]
  exact w_MinFunc ms (by omega) (by simp only [maxLen]; omega) [] (fun a b => cmpI (dstR r x a) (dstR r x b)) A h1 hs _ _ (fun a b => c_overlay_Observers_1 r x a b) ⟨_, rfl⟩ ⟨_, rfl⟩
theorem c_overlay_Observers (ms : List Int) (hl : ms.length ≤ maxLen) (x : Int) : Ret Try.prog 50 [.lst 1 (ms.map intE) false, i64 x] (.lst 1 ((obsR ms x).map intE) false) := by
  have e1 := c_view_ValidMembers ms hl
  have e2 := c_overlay_identifier x
  have ea : idsB ms 16 = true → ∀ r : Nat, r < 5 → Ret Try.prog 68 [.lst 1 (ms.map intE) false, .fn (.func 69) [.ip [u64 (posR r x)], .ip [i64 r]]] (i64 (prvR ms x r)) := fun hv r hr => c_MinFunc ms hv r hr x
  have ep : ∀ r : Nat, Ret Try.prog 67 [i64 r, i64 x] (u64 (posR r x)) := fun r => c_Position r x
  have ho : obsR ms x = bif !idsB ms 16 || !(decide (1 ≤ x) && decide (x ≤ 1000)) || (decide ((ms.length : Int) = 1) && decide (ms.getD 0 0 = x)) then [] else (List.range 5).map (prvR ms x) := rfl
  have hg : ∀ c : Bool, (c && decide (((ms.map intE).length : Int) = 1)) = true → (ms.map intE)[0]? = some (intE (ms.getD 0 0)) := fun c h => by
    simp only [Bool.and_eq_true, decide_eq_true_eq, List.length_map] at h
    have : 0 < ms.length := by omega
    simp [this]
  generalize prvR ms x = A at ea ho
  generalize obsR ms x = R at ho ⊢
  generalize idsB ms 16 = b1 at *
  generalize (decide (1 ≤ x) && decide (x ≤ 1000)) = b2 at *
  generalize hP : (fun r : Nat => posR r x) = P
  have hP : ∀ r : Nat, posR r x = P r := fun r => by rw [← hP]
  simp only [hP] at ea ep
  clear hP
  refine ret_of_body (fn := Try.f50) (c := Try.f50.body.getD .skip) hm hT (by kernel_rfl) Try.func50 (by kernel_rfl) (by kernel_rfl) (by kernel_rfl) (by kernel_rfl) ?_
  repeat' ((conv => whnf); first | refine And.intro (fun h => h) ?_ | refine dcond_t (by assumption) ?_ | refine dcond_f (by assumption) ?_ | (refine dcond_intro ?_ ?_ <;> intro h) | exact .refl | refine And.intro (by kernel_rfl) ?_ | refine And.intro ⟨fun h => h, fun h => h⟩ ?_ | refine .inl ⟨_, _, DleAll_refl _, e1, ?_⟩ | refine ⟨_, _, DleAll_refl _, fun _ => e1, ?_⟩ | refine ⟨_, _, DleAll_refl _, e1, ?_⟩ | refine .inl ⟨_, _, DleAll_refl _, e2, ?_⟩ | refine ⟨_, _, DleAll_refl _, fun _ => e2, ?_⟩ | refine ⟨_, _, DleAll_refl _, e2, ?_⟩ | refine ⟨0, intE (ms.getD 0 0), And.intro ⟨fun h => h, fun h => ⟨rfl, hg _ h⟩⟩ ?_⟩ | (refine And.intro ?_ ?_; focus (simp; done)) | fail)
  all_goals (conv => whnf)
  · rw [List.length_map] at h
    rw [ho, h]
    exact .nl
  · rw [List.length_map] at h
    rw [h, cond_false] at ho
    have hb : b1 = true := by
      simp only [Bool.or_eq_false_iff, Bool.not_eq_false'] at h
      exact h.1.1
    have ea := ea hb
    clear h hg
    subst ho
    refine ⟨Nat, fun i => ⟨[(0, .lst 1 (ms.map intE) false), (1, i64 x), (5, .own 0), (28, i64 i)], [.row 3 1 (((List.range i).map A).map intE)]⟩, fun i => i ≤ 5, fun i => 5 - i, [.slot 5 3 1], ⟨0, Nat.zero_le _, ?_⟩, ?_⟩
    · exact ⟨by repeat' ((conv => whnf); first | exact trivial | refine And.intro (by (conv => arg 1; whnf); first | (with_reducible exact .refl) | exact dle_int (wrap_succ (by omega)) | exact .refl) ?_), by repeat' ((conv => whnf); first | exact trivial | refine And.intro ?_ ?_ | exact .refl), rfl⟩
    · intro i hi
      repeat' ((conv => whnf); first | refine And.intro (fun h => h) ?_ | refine dcond_t (by assumption) ?_ | refine dcond_f (by assumption) ?_ | (refine dcond_intro ?_ ?_ <;> intro h) | exact .refl | refine And.intro (by kernel_rfl) ?_ | refine And.intro ⟨fun h => h, fun h => h⟩ ?_ | (refine And.intro ?_ ?_; focus (simp; done)) | fail)
      · have hlt : i < 5 := by
          simp at h
          omega
        clear h
        have e := ea i hlt
        have e2 := ep i
        have hfi : (((List.range i).map A).map intE).length + 1 ≤ 2000000 := by
          simp
          omega
        repeat' ((conv => whnf); first | refine And.intro (fun h => h) ?_ | refine dcond_t (by assumption) ?_ | refine dcond_f (by assumption) ?_ | (refine dcond_intro ?_ ?_ <;> intro h) | exact .refl | refine And.intro (by kernel_rfl) ?_ | refine And.intro ⟨fun h => h, fun h => h⟩ ?_ | refine .inl ⟨_, _, DleAll_refl _, e2, ?_⟩ | refine ⟨_, _, DleAll_refl _, fun _ => e2, ?_⟩ | refine ⟨_, _, DleAll_refl _, e2, ?_⟩ | refine .inl ⟨_, _, DleAll_refl _, e, ?_⟩ | refine ⟨_, _, DleAll_refl _, fun _ => e, ?_⟩ | refine ⟨_, _, DleAll_refl _, e, ?_⟩ | refine And.intro (fitsI hfi) ?_ | (refine And.intro ?_ ?_; focus (simp; done)) | fail)
        all_goals (conv => whnf)
        refine ⟨i + 1, hlt, by simp only []; omega, ?_⟩
        conv => whnf
        refine ⟨⟨.refl, .refl, .refl, dle_int (wrap_succ (by omega)), trivial⟩, ⟨ole_row ?_, trivial⟩, by rfl⟩
        rw [List.range_succ, List.map_append, List.map_append]
        rfl
      · have : i = 5 := by
          simp at h
          omega
        subst this
        repeat' ((conv => whnf); first | refine And.intro (fun h => h) ?_ | refine dcond_t (by assumption) ?_ | refine dcond_f (by assumption) ?_ | (refine dcond_intro ?_ ?_ <;> intro h) | exact .refl | refine And.intro (by kernel_rfl) ?_ | refine And.intro ⟨fun h => h, fun h => h⟩ ?_ | (refine And.intro ?_ ?_; focus (simp; done)) | fail)
end Go.Proofs.Ytpipaadjokdgoaa

set_option linter.unusedSimpArgs false
set_option linter.unusedVariables false
set_option maxRecDepth 100000
namespace Go.Proofs.Ytpipaadjokdgoaa
open Go.Lift
/-! package alerts -/
structure Alr where
  view : Int
  ring : Int
  obs : Int
  subj : Int
def alE (a : Alr) : List DV := [i64 a.view, i64 a.ring, i64 a.obs, i64 a.subj]
theorem fitsA {n : Nat} (h : n ≤ 2000000) : fitsIn tt 48 n := by
  have e : (tinfo tt 48).bytes = 32 := by kernel_rfl
  refine ⟨?_, ?_⟩
  · rw [e]; omega
  · simp only [maxLen]; omega
def alr0 : Alr := ⟨0, 0, 0, 0⟩
def ranB (a : Alr) : Bool := decide (0 ≤ a.ring) && decide (a.ring < 5) && decide (1 ≤ a.obs) && decide (a.obs ≤ 1000) && decide (1 ≤ a.subj) && decide (a.subj ≤ 1000)
def lessB (a b : Alr) : Bool := decide (a.subj < b.subj) || (decide (a.subj = b.subj) && decide (a.ring < b.ring))
theorem c_ranged (a : Alr) : Ret Try.prog 63 [.agg (alE a)] (.v (.bool (ranB a))) := by
  refine ret_of_body (fn := Try.f63) (c := Try.f63.body.getD .skip) hm hT (by kernel_rfl) Try.func63 (by kernel_rfl) (by kernel_rfl) (by kernel_rfl) (by kernel_rfl) ?_
  repeat' ((conv => whnf); first | refine And.intro (fun h => h) ?_ | refine dcond_t (by assumption) ?_ | refine dcond_f (by assumption) ?_ | (refine dcond_intro ?_ ?_ <;> intro h) | exact .refl | refine And.intro (by kernel_rfl) ?_ | refine And.intro ⟨fun h => h, fun h => h⟩ ?_ | (refine And.intro ?_ ?_; focus (simp; done)) | fail)
theorem c_Less (a b : Alr) : Ret Try.prog 47 [.agg (alE a), .agg (alE b)] (.v (.bool (lessB a b))) := by
  refine ret_of_body (fn := Try.f47) (c := Try.f47.body.getD .skip) hm hT (by kernel_rfl) Try.func47 (by kernel_rfl) (by kernel_rfl) (by kernel_rfl) (by kernel_rfl) ?_
  repeat' ((conv => whnf); first | refine And.intro (fun h => h) ?_ | refine dcond_t (by assumption) ?_ | refine dcond_f (by assumption) ?_ | (refine dcond_intro ?_ ?_ <;> intro h) | exact .refl | refine And.intro (by kernel_rfl) ?_ | refine And.intro ⟨fun h => h, fun h => h⟩ ?_ | (refine And.intro ?_ ?_; focus (simp; done)) | fail)
def valA (v : View) (a : Alr) : Bool := bif !viewB v || !decide (a.view = v.num) || !ranB a then false else decide (a.ring < ((obsR v.mem a.subj).length : Int)) && decide ((obsR v.mem a.subj).getD a.ring.toNat 0 = a.obs)
theorem c_ValidAlert (v : View) (hv : v.mem.length ≤ maxLen) (a : Alr) : Ret Try.prog 46 [.agg (viewE v), .agg (alE a)] (.v (.bool (valA v a))) := by
  have e1 := c_view_Valid v hv
  have e2 := c_ranged a
  have e3 := c_overlay_Observers v.mem hv a.subj
  have hd : valA v a = bif !viewB v || !decide (a.view = v.num) || !ranB a then false else decide (a.ring < ((obsR v.mem a.subj).length : Int)) && decide ((obsR v.mem a.subj).getD a.ring.toNat 0 = a.obs) := rfl
  have hr : ranB a = true → 0 ≤ a.ring := fun h => by
    simp only [ranB, Bool.and_eq_true, decide_eq_true_eq] at h
    exact h.1.1.1.1.1
  generalize obsR v.mem a.subj = R at e3 hd
  generalize ranB a = rb at *
  generalize viewB v = vb at *
  generalize valA v a = res at *
  refine ret_of_body (fn := Try.f46) (c := Try.f46.body.getD .skip) hm hT (by kernel_rfl) Try.func46 (by kernel_rfl) (by kernel_rfl) (by kernel_rfl) (by kernel_rfl) ?_
  repeat' ((conv => whnf); first | refine And.intro (fun h => h) ?_ | refine dcond_t (by assumption) ?_ | refine dcond_f (by assumption) ?_ | (refine dcond_intro ?_ ?_ <;> intro h) | exact .refl | refine And.intro (by kernel_rfl) ?_ | refine And.intro ⟨fun h => h, fun h => h⟩ ?_ | refine .inl ⟨_, _, DleAll_refl _, e1, ?_⟩ | refine ⟨_, _, DleAll_refl _, fun _ => e1, ?_⟩ | refine ⟨_, _, DleAll_refl _, e1, ?_⟩ | refine .inl ⟨_, _, DleAll_refl _, e2, ?_⟩ | refine ⟨_, _, DleAll_refl _, fun _ => e2, ?_⟩ | refine ⟨_, _, DleAll_refl _, e2, ?_⟩ | (refine And.intro ?_ ?_; focus (simp; done)) | fail)
  · rw [hd, h]
    exact .refl
  · have hrb : rb = true := by
      simp only [Bool.or_eq_false_iff, Bool.not_eq_false'] at h
      exact h.2
    have h0 := hr hrb
    rw [h, cond_false] at hd
    clear h
    have hix : decide (a.ring < ((R.map intE).length : Int)) = true → a.ring = ((a.ring.toNat : Nat) : Int) ∧ (R.map intE)[a.ring.toNat]? = some (intE (R.getD a.ring.toNat 0)) := fun h => by
      have h := of_decide_eq_true h
      rw [List.length_map] at h
      have : a.ring.toNat < R.length := by omega
      refine ⟨by omega, ?_⟩
      simp [this]
    repeat' ((conv => whnf); first | refine And.intro (fun h => h) ?_ | refine dcond_t (by assumption) ?_ | refine dcond_f (by assumption) ?_ | (refine dcond_intro ?_ ?_ <;> intro h) | exact .refl | refine And.intro (by kernel_rfl) ?_ | refine And.intro ⟨fun h => h, fun h => h⟩ ?_ | refine .inl ⟨_, _, DleAll_refl _, e3, ?_⟩ | refine ⟨_, _, DleAll_refl _, fun _ => e3, ?_⟩ | refine ⟨_, _, DleAll_refl _, e3, ?_⟩ | refine ⟨a.ring.toNat, intE (R.getD a.ring.toNat 0), And.intro ⟨⟨fun h => h, fun h => h⟩, fun h => hix h⟩ ?_⟩ | refine ⟨a.ring.toNat, intE (R.getD a.ring.toNat 0), And.intro ⟨fun h => h, fun h => hix h⟩ ?_⟩ | refine ⟨a.ring.toNat, intE (R.getD a.ring.toNat 0), And.intro (fun h => hix h) ?_⟩ | (refine And.intro ?_ ?_; focus (simp; done)) | fail)
    all_goals (conv => whnf)
    refine dle_bool ?_
    rw [hd, List.length_map]
def okS (v : View) (l : List Alr) (i : Nat) : Bool := valA v (l.getD i alr0) && !(decide (0 < (i : Int)) && !lessB (l.getD (i - 1) alr0) (l.getD i alr0))
def valS (v : View) (l : List Alr) : Bool := bif !viewB v then false else allB (okS v l) l.length
theorem c_alerts_Valid (v : View) (hv : v.mem.length ≤ maxLen) (l : List Alr) (hl : l.length ≤ maxLen) : Ret Try.prog 28 [.agg (viewE v), .lst 4 (l.map alE) false] (.v (.bool (valS v l))) := by
  have hl' : l.length ≤ 9223372036854775807 := hl
  have e1 := c_view_Valid v hv
  have hd : valS v l = bif !viewB v then false else allB (okS v l) l.length := rfl
  have ea := c_ValidAlert v hv
  generalize valS v l = res at *
  generalize viewB v = vb at *
  refine ret_of_body (fn := Try.f28) (c := Try.f28.body.getD .skip) hm hT (by kernel_rfl) Try.func28 (by kernel_rfl) (by kernel_rfl) (by kernel_rfl) (by kernel_rfl) ?_
  repeat' ((conv => whnf); first | refine And.intro (fun h => h) ?_ | refine dcond_t (by assumption) ?_ | refine dcond_f (by assumption) ?_ | (refine dcond_intro ?_ ?_ <;> intro h) | exact .refl | refine And.intro (by kernel_rfl) ?_ | refine And.intro ⟨fun h => h, fun h => h⟩ ?_ | refine .inl ⟨_, _, DleAll_refl _, e1, ?_⟩ | refine ⟨_, _, DleAll_refl _, fun _ => e1, ?_⟩ | refine ⟨_, _, DleAll_refl _, e1, ?_⟩ | (refine And.intro ?_ ?_; focus (simp; done)) | fail)
  all_goals (conv => whnf)
  · rw [hd, h]
    exact .refl
  · rw [h, cond_false] at hd
    clear h
    subst hd
    refine ⟨Nat, fun i => ⟨[(1, .lst 4 (l.map alE) false), (2, .lp 0 0), (10, .lst 4 (l.map alE) false), (11, i64 l.length), (12, i64 i)], [.cells 24 (viewE v)]⟩, fun i => i ≤ l.length ∧ ∀ j, j < i → okS v l j = true, fun i => l.length - i, [], ⟨0, ⟨Nat.zero_le _, by omega⟩, ?_⟩, ?_⟩
    · conv => whnf
      exact ⟨⟨.refl, .refl, .refl, dle_int (by simp), .refl, trivial⟩, ⟨.refl, trivial⟩, by rfl⟩
    · intro i ⟨hi, hall⟩
      repeat' ((conv => whnf); first | refine And.intro (fun h => h) ?_ | refine dcond_t (by assumption) ?_ | refine dcond_f (by assumption) ?_ | (refine dcond_intro ?_ ?_ <;> intro h) | exact .refl | refine And.intro (by kernel_rfl) ?_ | refine And.intro ⟨fun h => h, fun h => h⟩ ?_ | (refine And.intro ?_ ?_; focus (simp; done)) | fail)
      · have hlt : i < l.length := by simpa using h
        clear h
        have hg : l.getD i alr0 = l[i] := by simp [hlt]
        have hok : okS v l i = (valA v l[i] && !(decide (0 < (i : Int)) && !lessB (l.getD (i - 1) alr0) l[i])) := by
          unfold okS
          rw [hg]
        have e4 := ea l[i]
        have e5 := c_Less (l.getD (i - 1) alr0) l[i]
        have hix : decide ((i : Int) > 0) = true → IntKind.i64.wrap ((i : Int) - 1) = ((i - 1 : Nat) : Int) ∧ (l.map alE)[i - 1]? = some (alE (l.getD (i - 1) alr0)) := fun h => by
          have h := of_decide_eq_true h
          have : i - 1 < l.length := by omega
          refine ⟨by rw [wrap_i64 (by omega) (by omega)]; omega, ?_⟩
          simp [this]
        have hix2 : ∀ c : Bool, (c && decide ((0 : Int) < (i : Int))) = true → IntKind.i64.wrap ((i : Int) - 1) = ((i - 1 : Nat) : Int) ∧ (l.map alE)[i - 1]? = some (alE (l.getD (i - 1) alr0)) := fun c h => by
          rw [Bool.and_eq_true] at h
          exact hix h.2
        generalize valA v l[i] = va at e4 hok
        generalize lessB (l.getD (i - 1) alr0) l[i] = lb at e5 hok
        generalize l.getD (i - 1) alr0 = lp at e5 hix2
        repeat' ((conv => whnf); first | refine And.intro (fun h => h) ?_ | refine dcond_t (by assumption) ?_ | refine dcond_f (by assumption) ?_ | (refine dcond_intro ?_ ?_ <;> intro h) | exact .refl | refine And.intro (by kernel_rfl) ?_ | refine And.intro ⟨fun h => h, fun h => h⟩ ?_ | refine ⟨_, _, And.intro ⟨rfl, get_map hlt⟩ ?_⟩ | refine .inl ⟨_, _, DleAll_refl _, e4, ?_⟩ | refine ⟨_, _, DleAll_refl _, fun _ => e4, ?_⟩ | refine ⟨_, _, DleAll_refl _, e4, ?_⟩ | refine ⟨i - 1, alE lp, And.intro ⟨⟨fun h => h, fun h => h⟩, fun h => hix2 _ h⟩ ?_⟩ | refine ⟨i - 1, alE lp, And.intro ⟨fun h => h, fun h => hix2 _ h⟩ ?_⟩ | refine ⟨i - 1, alE lp, And.intro (fun h => hix2 _ h) ?_⟩ | refine .inl ⟨_, _, DleAll_refl _, e5, ?_⟩ | refine ⟨_, _, DleAll_refl _, fun _ => e5, ?_⟩ | refine ⟨_, _, DleAll_refl _, e5, ?_⟩ | (refine And.intro ?_ ?_; focus (simp; done)) | fail)
        all_goals (conv => whnf)
        have hb : okS v l i = !(!va || (decide ((0 : Int) < (i : Int)) && !lb)) := by
          rw [hok, Bool.not_or, Bool.not_not]
        · rw [allB_false hlt (by rw [hb, h]; rfl)]
          exact .refl
        · have hb : okS v l i = !(!va || (decide ((0 : Int) < (i : Int)) && !lb)) := by
            rw [hok, Bool.not_or, Bool.not_not]
          refine ⟨i + 1, ⟨hlt, fun j hj => ?_⟩, by simp only []; omega, ?_⟩
          · rcases Nat.lt_succ_iff_lt_or_eq.1 hj with hj | rfl
            · exact hall j hj
            · rw [hb, h]
              rfl
          · conv => whnf
            exact ⟨⟨.refl, .refl, .refl, .refl, dle_int (wrap_succ (by omega)), trivial⟩, ⟨.refl, trivial⟩, by rfl⟩
      · have hge : ¬ i < l.length := by simpa using h
        conv => whnf
        refine dle_bool ?_
        rw [allB_true.2 (fun j hj => hall j (by omega))]
theorem tw_eq {α : Type} {p : α → Bool} {d : α} : ∀ {l : List α} {k : Nat}, k ≤ l.length → (∀ j, j < k → p (l.getD j d) = true) → (k = l.length ∨ p (l.getD k d) = false) → (l.takeWhile p).length = k
  | [], k, h, _, _ => by
    have : k = 0 := by simpa using h
    subst this
    rfl
  | x :: t, 0, _, _, h2 => by
    have : p x = false := by
      rcases h2 with h2 | h2
      · simp at h2
      · simpa using h2
    rw [List.takeWhile_cons, this]
    rfl
  | x :: t, k + 1, h, h1, h2 => by
    have hx : p x = true := by simpa using h1 0 (by omega)
    have ih := tw_eq (p := p) (d := d) (l := t) (k := k) (by simpa using h) (fun j hj => by simpa using h1 (j + 1) (by omega)) (by simpa using h2)
    rw [List.takeWhile_cons, hx]
    simp [ih]
def insK (l : List Alr) (a : Alr) : Nat := (l.takeWhile fun x => lessB x a).length
def insR (l : List Alr) (a : Alr) : List Alr × Bool := bif decide (((insK l a : Nat) : Int) < (l.length : Int)) && !lessB a (l.getD (insK l a) alr0) then (l, false) else (l.take (insK l a) ++ [a] ++ l.drop (insK l a), true)
def addR (v : View) (l : List Alr) (a : Alr) : List Alr × Bool × Int := bif !valS v l || !ranB a then ([], false, 1) else bif !decide (a.view = v.num) then ([], false, 8) else bif !valA v a then ([], false, 6) else ((insR l a).1, (insR l a).2, 0)
end Go.Proofs.Ytpipaadjokdgoaa

set_option linter.unusedSimpArgs false
set_option linter.unusedVariables false
set_option maxRecDepth 100000
namespace Go.Proofs.Ytpipaadjokdgoaa
open Go.Lift
def cntS (l : List Alr) (s : Int) (i : Nat) : Nat := (l.take i).countP fun a => decide (a.subj = s)
theorem cnt_succ {l : List Alr} {s : Int} {i : Nat} (h : i < l.length) : cntS l s (i + 1) = cntS l s i + if l[i].subj = s then 1 else 0 := by
  unfold cntS
  rw [List.take_succ_eq_append_getElem h, List.countP_append, List.countP_cons, List.countP_nil]
  simp
theorem cnt_le (l : List Alr) (s : Int) (i : Nat) : cntS l s i ≤ i := Nat.le_trans List.countP_le_length (by simp; omega)
theorem c_alerts_Count (l : List Alr) (hl : l.length ≤ 1000000) (s : Int) : Ret Try.prog 30 [.lst 4 (l.map alE) false, i64 s] (i64 (cntS l s l.length : Nat)) := by
  refine ret_of_body (fn := Try.f30) (c := Try.f30.body.getD .skip) hm hT (by kernel_rfl) Try.func30 (by kernel_rfl) (by kernel_rfl) (by kernel_rfl) (by kernel_rfl) ?_
  repeat' ((conv => whnf); first | refine And.intro (fun h => h) ?_ | refine dcond_t (by assumption) ?_ | refine dcond_f (by assumption) ?_ | (refine dcond_intro ?_ ?_ <;> intro h) | exact .refl | refine And.intro (by kernel_rfl) ?_ | refine And.intro ⟨fun h => h, fun h => h⟩ ?_ | (refine And.intro ?_ ?_; focus (simp; done)) | fail)
  all_goals (conv => whnf)
  refine ⟨Nat, fun i => ⟨[(1, i64 s), (5, i64 (cntS l s i : Nat)), (8, .lst 4 (l.map alE) false), (9, i64 l.length), (10, i64 i)], []⟩, fun i => i ≤ l.length, fun i => l.length - i, [], ⟨0, Nat.zero_le _, ?_⟩, ?_⟩
  · conv => whnf
    exact ⟨⟨.refl, .refl, .refl, dle_int (by simp), .refl, trivial⟩, trivial, by rfl⟩
  · intro i hi
    repeat' ((conv => whnf); first | refine And.intro (fun h => h) ?_ | refine dcond_t (by assumption) ?_ | refine dcond_f (by assumption) ?_ | (refine dcond_intro ?_ ?_ <;> intro h) | exact .refl | refine And.intro (by kernel_rfl) ?_ | refine And.intro ⟨fun h => h, fun h => h⟩ ?_ | (refine And.intro ?_ ?_; focus (simp; done)) | fail)
    · have hlt : i < l.length := by simpa using h
      clear h
      have hs := cnt_succ (s := s) hlt
      have hc := cnt_le l s i
      repeat' ((conv => whnf); first | refine And.intro (fun h => h) ?_ | refine dcond_t (by assumption) ?_ | refine dcond_f (by assumption) ?_ | (refine dcond_intro ?_ ?_ <;> intro h) | exact .refl | refine And.intro (by kernel_rfl) ?_ | refine And.intro ⟨fun h => h, fun h => h⟩ ?_ | refine ⟨_, _, And.intro ⟨rfl, get_map hlt⟩ ?_⟩ | (refine And.intro ?_ ?_; focus (simp; done)) | fail)
      all_goals (conv => whnf)
      all_goals refine ⟨i + 1, hlt, by simp only []; omega, ?_⟩
      all_goals (conv => whnf)
      all_goals refine ⟨⟨.refl, dle_int ?_, .refl, .refl, dle_int (wrap_succ (by omega)), trivial⟩, trivial, by rfl⟩
      · rw [hs, if_pos (of_decide_eq_true h), wrap_i64 (by omega) (by omega)]
        omega
      · rw [hs, if_neg (of_decide_eq_false h)]
        rfl
    · have : i = l.length := by
        simp at h
        omega
      subst this
      repeat' ((conv => whnf); first | refine And.intro (fun h => h) ?_ | refine dcond_t (by assumption) ?_ | refine dcond_f (by assumption) ?_ | (refine dcond_intro ?_ ?_ <;> intro h) | exact .refl | refine And.intro (by kernel_rfl) ?_ | refine And.intro ⟨fun h => h, fun h => h⟩ ?_ | (refine And.intro ?_ ?_; focus (simp; done)) | fail)
end Go.Proofs.Ytpipaadjokdgoaa

set_option linter.unusedSimpArgs false
set_option linter.unusedVariables false
set_option maxRecDepth 100000
namespace Go.Proofs.Ytpipaadjokdgoaa
open Go.Lift
/-! the law's own helpers -/
def bE16 (n : Nat) : List DV := [.v (.int .u16 n)]
def subOf (v : View) (c : Nat) : Int := if 32768 ≤ c then 1 + ((c / 8 % 1000 : Nat) : Int) else v.mem.getD (c / 8 % v.mem.length) 0
def pairOf (v : View) (c : Nat) : List Alr := bif decide (((obsR v.mem (subOf v c)).length : Int) = 5) then [⟨v.num, ((c % 8 % 5 : Nat) : Int), (obsR v.mem (subOf v c)).getD (c % 8 % 5) 0, subOf v c⟩] else []
def pairsR (v : View) (l : List Nat) (i : Nat) : List Alr := (l.take i).flatMap (pairOf v)
theorem pairs_succ {v : View} {l : List Nat} {i : Nat} (h : i < l.length) : pairsR v l (i + 1) = pairsR v l i ++ pairOf v l[i] := by
  unfold pairsR
  rw [List.take_succ_eq_append_getElem h, List.flatMap_append]
  simp
theorem pairs_len {v : View} {l : List Nat} : ∀ i, i ≤ l.length → (pairsR v l i).length ≤ i
  | 0, _ => by simp [pairsR]
  | i + 1, h => by
    have ih := pairs_len (v := v) (l := l) i (by omega)
    rw [pairs_succ (by omega), List.length_append]
    unfold pairOf
    cases decide (((obsR v.mem (subOf v l[i])).length : Int) = 5) <;> simp <;> omega
theorem wrap_u16 {n : Int} (h1 : 0 ≤ n) (h2 : n < 65536) : IntKind.u16.wrap n = n := by
  simp only [IntKind.wrap, IntKind.bits, IntKind.signed]
  simp
  omega
set_option maxRecDepth 100000 in
theorem c_Pairs (v : View) (hv : v.mem.length ≤ maxLen) (hvw : viewB v = true) (l : List Nat) (hl : l.length ≤ 1000) (hlb : ∀ x ∈ l, x ≤ 65535) : Ret Try.prog 25 [.agg (viewE v), .lst 1 (l.map bE16) false] (.lst 4 ((pairsR v l l.length).map alE) false) := by
  have e1 := c_ref3_Valid v hv
  rw [hvw] at e1
  have hn := view_len hvw
  have hm0 : 0 < v.mem.length := hn.1
  have hne : ((v.mem.map intE).length : Int) ≠ 0 := by
    rw [List.length_map]
    omega
  refine ret_of_body (fn := Try.f25) (c := Try.f25.body.getD .skip) hm hT (by kernel_rfl) Try.func25 (by kernel_rfl) (by kernel_rfl) (by kernel_rfl) (by kernel_rfl) ?_
  repeat' ((conv => whnf); first | refine And.intro (fun h => h) ?_ | refine dcond_t (by assumption) ?_ | refine dcond_f (by assumption) ?_ | (refine dcond_intro ?_ ?_ <;> intro h) | exact .refl | refine And.intro (by kernel_rfl) ?_ | refine And.intro ⟨fun h => h, fun h => h⟩ ?_ | (refine And.intro ?_ ?_; focus (simp; done)) | fail)
  all_goals (conv => whnf)
  refine ⟨Nat, fun i => ⟨[(1, .lst 1 (l.map bE16) false), (2, .lp 0 0), (5, .own 1), (6, i64 i)], [.cells 24 (viewE v), .row 48 4 ((pairsR v l i).map alE)]⟩, fun i => i ≤ l.length, fun i => l.length - i, [.slot 5 48 4], ⟨0, Nat.zero_le _, ?_⟩, ?_⟩
  · conv => whnf
    exact ⟨⟨.refl, .refl, .refl, .refl, trivial⟩, ⟨.refl, .refl, trivial⟩, by rfl⟩
  · intro i hi
    repeat' ((conv => whnf); first | refine And.intro (fun h => h) ?_ | refine dcond_t (by assumption) ?_ | refine dcond_f (by assumption) ?_ | (refine dcond_intro ?_ ?_ <;> intro h) | exact .refl | refine And.intro (by kernel_rfl) ?_ | refine And.intro ⟨fun h => h, fun h => h⟩ ?_ | refine ⟨_, _, DleAll_refl _, fun _ => e1, ?_⟩ | (refine And.intro ?_ ?_; focus (simp; done)) | fail)
    · have hlt : i < l.length := by simpa using h
      clear h
      have hc := hlb l[i] (List.getElem_mem hlt)
      have hs := pairs_succ (v := v) hlt
      have hpl := pairs_len (v := v) (l := l) i hi
      have hq : IntKind.i64.wrap (IntKind.u16.wrap (Int.tdiv (l[i] : Int) 8)) = ((l[i] / 8 : Nat) : Int) := by
        have e : Int.tdiv (l[i] : Int) 8 = ((l[i] / 8 : Nat) : Int) := (Int.ofNat_tdiv l[i] 8).symm
        rw [e, wrap_u16 (by omega) (by omega), wrap_i64 (by omega) (by omega)]
      have hix : Int.tmod (IntKind.i64.wrap (IntKind.u16.wrap (Int.tdiv (l[i] : Int) 8))) ((v.mem.map intE).length : Int) = ((l[i] / 8 % v.mem.length : Nat) : Int) := by
        rw [hq, List.length_map]
        exact (Int.ofNat_tmod _ _).symm
      have hr : Int.tmod (IntKind.i64.wrap (Int.tmod (l[i] : Int) 8)) 5 = ((l[i] % 8 % 5 : Nat) : Int) := by
        have e : Int.tmod (l[i] : Int) 8 = ((l[i] % 8 : Nat) : Int) := (Int.ofNat_tmod l[i] 8).symm
        rw [e, wrap_i64 (by omega) (by omega)]
        exact (Int.ofNat_tmod _ 5).symm
      have hp : pairOf v l[i] = bif decide (((obsR v.mem (subOf v l[i])).length : Int) = 5) then [⟨v.num, ((l[i] % 8 % 5 : Nat) : Int), (obsR v.mem (subOf v l[i])).getD (l[i] % 8 % 5) 0, subOf v l[i]⟩] else [] := rfl
      have hfa : ((pairsR v l i).map alE).length + 1 ≤ 2000000 := by
        rw [List.length_map]
        omega
      have hgx : (v.mem.map intE)[l[i] / 8 % v.mem.length]? = some (intE (v.mem.getD (l[i] / 8 % v.mem.length) 0)) := by
        have : l[i] / 8 % v.mem.length < v.mem.length := Nat.mod_lt _ hm0
        simp [this]
      repeat' ((conv => whnf); first | refine And.intro (fun h => h) ?_ | refine dcond_t (by assumption) ?_ | refine dcond_f (by assumption) ?_ | (refine dcond_intro ?_ ?_ <;> intro h) | exact .refl | refine And.intro (by kernel_rfl) ?_ | refine And.intro ⟨fun h => h, fun h => h⟩ ?_ | refine ⟨_, _, And.intro ⟨rfl, get_map hlt⟩ ?_⟩ | refine And.intro hne ?_ | refine And.intro (by decide) ?_ | refine ⟨l[i] / 8 % v.mem.length, _, And.intro ⟨hix, hgx⟩ ?_⟩ | (refine And.intro ?_ ?_; focus (simp; done)) | fail)
      all_goals (conv => whnf)
      · have hX : IntKind.i64.wrap (1 + Int.tmod (IntKind.i64.wrap (IntKind.u16.wrap (Int.tdiv (l[i] : Int) 8))) 1000) = subOf v l[i] := by
          have h := of_decide_eq_true h
          have e : Int.tmod ((l[i] / 8 : Nat) : Int) 1000 = ((l[i] / 8 % 1000 : Nat) : Int) := (Int.ofNat_tmod (l[i] / 8) 1000).symm
          rw [hq, e, wrap_i64 (by omega) (by omega)]
          unfold subOf
          rw [if_pos (by omega)]
        have e' : Ret Try.prog 22 [.lst 1 (v.mem.map intE) false, .v (.int .i64 (IntKind.i64.wrap (1 + Int.tmod (IntKind.i64.wrap (IntKind.u16.wrap (Int.tdiv (l[i] : Int) 8))) 1000)))] (.lst 1 ((obsR v.mem (subOf v l[i])).map intE) false) := by
          rw [hX]
          exact c_ref4_Observers v.mem hv (subOf v l[i])
        clear h
        generalize obsR v.mem (subOf v l[i]) = O at e' hp
        generalize subOf v l[i] = sb at hX hp
        repeat' ((conv => whnf); first | refine And.intro (fun h => h) ?_ | refine dcond_t (by assumption) ?_ | refine dcond_f (by assumption) ?_ | (refine dcond_intro ?_ ?_ <;> intro h) | exact .refl | refine And.intro (by kernel_rfl) ?_ | refine And.intro ⟨fun h => h, fun h => h⟩ ?_ | refine .inl ⟨_, _, DleAll_refl _, e', ?_⟩ | refine ⟨_, _, DleAll_refl _, fun _ => e', ?_⟩ | refine ⟨_, _, DleAll_refl _, e', ?_⟩ | (refine And.intro ?_ ?_; focus (simp; done)) | fail)
        · rw [List.length_map] at h
          rw [h, cond_true] at hp
          have h5 : O.length = 5 := by
            have := of_decide_eq_true h
            omega
          have hgO : (O.map intE)[l[i] % 8 % 5]? = some (intE (O.getD (l[i] % 8 % 5) 0)) := by
            have : l[i] % 8 % 5 < O.length := by omega
            simp [this]
          repeat' ((conv => whnf); first | refine And.intro (fun h => h) ?_ | refine dcond_t (by assumption) ?_ | refine dcond_f (by assumption) ?_ | (refine dcond_intro ?_ ?_ <;> intro h) | exact .refl | refine And.intro (by kernel_rfl) ?_ | refine And.intro ⟨fun h => h, fun h => h⟩ ?_ | refine ⟨l[i] % 8 % 5, intE (O.getD (l[i] % 8 % 5) 0), And.intro ⟨hr, hgO⟩ ?_⟩ | refine And.intro (fitsA hfa) ?_ | (refine And.intro ?_ ?_; focus (simp; done)) | fail)
          all_goals (conv => whnf)
          refine ⟨i + 1, hlt, by simp only []; omega, ?_⟩
          conv => whnf
          refine ⟨⟨.refl, .refl, .refl, dle_int (wrap_succ (by omega)), trivial⟩, ⟨.refl, ole_row ?_, trivial⟩, by rfl⟩
          rw [hs, hp, List.map_append, ← hX]
          show (_ : List (List DV)) ++ [[_, DV.v (.int .i64 (Int.tmod (IntKind.i64.wrap (Int.tmod (l[i] : Int) 8)) 5)), _, _]] = _
          rw [hr]
          rfl
        · rw [List.length_map] at h
          rw [h, cond_false] at hp
          conv => whnf
          refine ⟨i + 1, hlt, by simp only []; omega, ?_⟩
          conv => whnf
          refine ⟨⟨.refl, .refl, .refl, dle_int (wrap_succ (by omega)), trivial⟩, ⟨.refl, ole_row ?_, trivial⟩, by rfl⟩
          rw [hs, hp, List.append_nil]
      · have hX : v.mem.getD (l[i] / 8 % v.mem.length) 0 = subOf v l[i] := by
          have h := of_decide_eq_false h
          unfold subOf
          rw [if_neg (by omega)]
        have e' : Ret Try.prog 22 [.lst 1 (v.mem.map intE) false, .v (.int .i64 (v.mem.getD (l[i] / 8 % v.mem.length) 0))] (.lst 1 ((obsR v.mem (subOf v l[i])).map intE) false) := by
          rw [hX]
          exact c_ref4_Observers v.mem hv (subOf v l[i])
        clear h
        generalize obsR v.mem (subOf v l[i]) = O at e' hp
        generalize subOf v l[i] = sb at hX hp
        repeat' ((conv => whnf); first | refine And.intro (fun h => h) ?_ | refine dcond_t (by assumption) ?_ | refine dcond_f (by assumption) ?_ | (refine dcond_intro ?_ ?_ <;> intro h) | exact .refl | refine And.intro (by kernel_rfl) ?_ | refine And.intro ⟨fun h => h, fun h => h⟩ ?_ | refine .inl ⟨_, _, DleAll_refl _, e', ?_⟩ | refine ⟨_, _, DleAll_refl _, fun _ => e', ?_⟩ | refine ⟨_, _, DleAll_refl _, e', ?_⟩ | (refine And.intro ?_ ?_; focus (simp; done)) | fail)
        · rw [List.length_map] at h
          rw [h, cond_true] at hp
          have h5 : O.length = 5 := by
            have := of_decide_eq_true h
            omega
          have hgO : (O.map intE)[l[i] % 8 % 5]? = some (intE (O.getD (l[i] % 8 % 5) 0)) := by
            have : l[i] % 8 % 5 < O.length := by omega
            simp [this]
          repeat' ((conv => whnf); first | refine And.intro (fun h => h) ?_ | refine dcond_t (by assumption) ?_ | refine dcond_f (by assumption) ?_ | (refine dcond_intro ?_ ?_ <;> intro h) | exact .refl | refine And.intro (by kernel_rfl) ?_ | refine And.intro ⟨fun h => h, fun h => h⟩ ?_ | refine ⟨l[i] % 8 % 5, intE (O.getD (l[i] % 8 % 5) 0), And.intro ⟨hr, hgO⟩ ?_⟩ | refine And.intro (fitsA hfa) ?_ | (refine And.intro ?_ ?_; focus (simp; done)) | fail)
          all_goals (conv => whnf)
          refine ⟨i + 1, hlt, by simp only []; omega, ?_⟩
          conv => whnf
          refine ⟨⟨.refl, .refl, .refl, dle_int (wrap_succ (by omega)), trivial⟩, ⟨.refl, ole_row ?_, trivial⟩, by rfl⟩
          rw [hs, hp, List.map_append, ← hX]
          show (_ : List (List DV)) ++ [[_, DV.v (.int .i64 (Int.tmod (IntKind.i64.wrap (Int.tmod (l[i] : Int) 8)) 5)), _, _]] = _
          rw [hr]
          rfl
        · rw [List.length_map] at h
          rw [h, cond_false] at hp
          conv => whnf
          refine ⟨i + 1, hlt, by simp only []; omega, ?_⟩
          conv => whnf
          refine ⟨⟨.refl, .refl, .refl, dle_int (wrap_succ (by omega)), trivial⟩, ⟨.refl, ole_row ?_, trivial⟩, by rfl⟩
          rw [hs, hp, List.append_nil]
    · have : i = l.length := by
        simp at h
        omega
      subst this
      repeat' ((conv => whnf); first | refine And.intro (fun h => h) ?_ | refine dcond_t (by assumption) ?_ | refine dcond_f (by assumption) ?_ | (refine dcond_intro ?_ ?_ <;> intro h) | exact .refl | refine And.intro (by kernel_rfl) ?_ | refine And.intro ⟨fun h => h, fun h => h⟩ ?_ | (refine And.intro ?_ ?_; focus (simp; done)) | fail)
end Go.Proofs.Ytpipaadjokdgoaa
